/-
  The judge's state and the reference's words say the same of a trace in which none is at fault: the pure law of JudgeFinds.
-/
import Derived.Test.YthoaeolohnalnaaRi
namespace Go.Proofs.Ythoaeolohnalnaa
open Go.RowKit

theorem snoc_low (l : List Ev) (e : Ev) {j : Nat} (h : j < l.length) : (l ++ [e]).getD j ev0 = l.getD j ev0 := by
  simp [List.getD, List.getElem?_append_left h]
theorem snoc_end (l : List Ev) (e : Ev) : (l ++ [e]).getD l.length ev0 = e := by
  simp [List.getD]
theorem snoc_len (l : List Ev) (e : Ev) : (l ++ [e]).length = l.length + 1 := by simp
theorem lastR_low (x y : Int) (l : List Ev) (e : Ev) : ∀ k, k ≤ l.length → lastR x y (l ++ [e]) k = lastR x y l k
  | 0, _ => rfl
  | k + 1, h => by
    unfold lastR
    rw [snoc_low l e (by omega), lastR_low x y l e k (by omega)]
theorem lastR_snoc (x y : Int) (l : List Ev) (e : Ev) : lastR x y (l ++ [e]) (l ++ [e]).length = if e.kind = x ∨ e.kind = y then (l.length : Int) else lastR x y l l.length := by
  rw [snoc_len]
  show (if ((l ++ [e]).getD l.length ev0).kind = x ∨ ((l ++ [e]).getD l.length ev0).kind = y then (l.length : Int) else lastR x y (l ++ [e]) l.length) = _
  rw [snoc_end, lastR_low x y l e _ (Nat.le_refl _)]
theorem failsR_low (l : List Ev) (e : Ev) : ∀ k, k ≤ l.length → failsR (l ++ [e]) k = failsR l k
  | 0, _ => rfl
  | k + 1, h => by
    unfold failsR
    rw [snoc_low l e (by omega), failsR_low l e k (by omega)]
theorem failsR_snoc (l : List Ev) (e : Ev) : failsR (l ++ [e]) (l ++ [e]).length = if e.kind = 5 then failsR l l.length + 1 else failsR l l.length := by
  rw [snoc_len]
  show (if ((l ++ [e]).getD l.length ev0).kind = 5 then failsR (l ++ [e]) l.length + 1 else failsR (l ++ [e]) l.length) = _
  rw [snoc_end, failsR_low l e _ (Nat.le_refl _)]
theorem heldR_snoc (l : List Ev) (e : Ev) : heldR (l ++ [e]) = if e.kind = 2 then some e else if e.kind = 3 then none else heldR l := by
  have hl := lastR_snoc 2 3 l e
  have hb := lastR_bounds 2 3 l l.length
  unfold heldR
  by_cases h2 : e.kind = 2
  · rw [if_pos (Or.inl h2)] at hl
    rw [hl, Int.toNat_natCast, snoc_end, if_neg (by omega), if_pos h2]
  by_cases h3 : e.kind = 3
  · rw [if_pos (Or.inr h3)] at hl
    rw [hl, Int.toNat_natCast, snoc_end, if_pos (Or.inr h3), if_neg h2, if_pos h3]
  rw [if_neg (by omega)] at hl
  rw [hl, if_neg h2, if_neg h3]
  by_cases h0 : lastR 2 3 l l.length < 0
  · rw [if_pos (Or.inl h0), if_pos (Or.inl h0)]
  · rw [snoc_low l e (by omega)]
theorem underR_snoc (l : List Ev) (e : Ev) : underR (l ++ [e]) = if e.kind = 4 then true else if e.kind = 5 ∨ e.kind = 6 then false else underR l := by
  unfold underR
  rw [lastR_snoc, lastR_snoc]
  have h4 := lastR_bounds 4 4 l l.length
  have h5 := lastR_bounds 5 6 l l.length
  by_cases k4 : e.kind = 4
  · rw [if_pos (.inl k4), if_neg (by omega), if_pos k4, Bool.and_eq_true, decide_eq_true_eq, decide_eq_true_eq]
    omega
  rw [if_neg (by omega), if_neg k4]
  by_cases k5 : e.kind = 5 ∨ e.kind = 6
  · rw [if_pos k5, if_pos k5, Bool.and_eq_false_iff]
    exact .inr (decide_eq_false (by omega))
  · rw [if_neg k5, if_neg k5]
theorem overR_snoc (l : List Ev) (e : Ev) : overR (l ++ [e]) = if e.kind = 6 ∨ e.kind = 7 then true else overR l := by
  unfold overR
  rw [lastR_snoc]
  by_cases k6 : e.kind = 6 ∨ e.kind = 7
  · rw [if_pos k6, if_pos k6, decide_eq_true_eq]
    omega
  · rw [if_neg k6, if_neg k6]
theorem back_bounds (n : Int) (h : 0 ≤ n) : 0 ≤ backoff n ∧ backoff n ≤ 800 := (backoff_eq n h).2
theorem restR_snoc (l : List Ev) (e : Ev) : restR (l ++ [e]) = if e.kind = 5 then readyP e.time (backoff (failsR l l.length)) else restR l := by
  have hb := failsR_bounds l l.length
  have hf := failsR_snoc l e
  have hl := lastR_snoc 5 5 l e
  unfold restR
  by_cases k5 : e.kind = 5
  · rw [if_pos k5] at hf
    rw [if_pos (Or.inl k5)] at hl
    rw [hf, hl, if_neg (by omega), Int.toNat_natCast, snoc_end, if_pos k5]
    unfold readyP waitR
    rw [show failsR l l.length + 1 - 1 = failsR l l.length by omega]
    have hx := back_bounds _ hb.1
    by_cases hm : 1125899906842624 < e.time + backoff (failsR l l.length) - backoff (failsR l l.length) / 4
    · rw [if_pos hm, if_pos (by omega)]
    · rw [if_neg hm, if_neg (by omega)]
      omega
  · rw [if_neg k5] at hf
    rw [if_neg (by omega)] at hl
    rw [hf, hl, if_neg k5]
    by_cases h0 : failsR l l.length = 0
    · rw [if_pos h0, if_pos h0]
    · have hl2 := fails_last l l.length h0
      have hl3 := lastR_bounds 5 5 l l.length
      rw [if_neg h0, if_neg h0, snoc_low l e (by omega)]
theorem lastT_snoc (l : List Ev) (e : Ev) : lastT (l ++ [e]) = e.time := by
  unfold lastT
  rw [snoc_len, Nat.add_sub_cancel, snoc_end]
theorem awaitedR_snoc (c : Cfg) (l : List Ev) (e : Ev) : awaitedR c (l ++ [e]) = if e.kind = 3 ∧ underR l = true then 5 else if e.kind = 5 ∧ failsR l l.length + 1 = c.att then 7 else 0 := by
  unfold awaitedR
  rw [failsR_snoc, snoc_len, Nat.add_sub_cancel, snoc_end, if_neg (by omega), List.take_left']
  · by_cases k5 : e.kind = 5
    · simp [k5]
    · simp [k5]
  · rfl

structure LinkR (c : Cfg) (s : Lk) (l : List Ev) : Prop where
  held : s.held = (heldR l).isSome
  ip : s.held = true → s.ip = ((heldR l).getD ev0).ip
  till : s.held = true → s.till = ((heldR l).getD ev0).till
  under : s.under = underR l
  over : s.over = overR l
  fails : s.fails = failsR l l.length
  ready : s.ready = restR l
  awaited : s.awaited = awaitedR c l
  now : l ≠ [] → s.now = lastT l
  wait : s.awaited = 5 → s.under = true
theorem linkR0 (c : Cfg) : LinkR c lk0 [] := ⟨rfl, fun h => Bool.noConfusion h, fun h => Bool.noConfusion h, rfl, rfl, rfl, rfl, rfl, fun h => absurd rfl h, fun h => absurd h (by decide)⟩
theorem linkR_same {c : Cfg} {s : Lk} {l : List Ev} {e : Ev} {f : Bool} (h : LinkR c s l) (hf : f = decide (l.length = 0)) : faultR c l e = (askP c s e f).1 := by
  unfold faultR askP
  by_cases hfo : formedP e = false
  · rw [if_pos hfo, if_pos hfo]
  rw [if_neg hfo, if_neg hfo]
  obtain ⟨hk1, hk7, _, _⟩ := formed_bounds (e := e) (by simpa using hfo)
  clear hfo
  have h2 : (0 < l.length ∧ e.time < lastT l) ↔ (f = false ∧ e.time < s.now) := by
    subst hf
    by_cases h0 : l.length = 0
    · simp [h0]
    · have := h.now (by intro e; rw [e] at h0; exact h0 rfl)
      rw [this]
      simp [h0]
      omega
  by_cases ht : f = false ∧ e.time < s.now
  · rw [if_pos (h2.2 ht), if_pos ht]
  rw [if_neg (fun h => ht (h2.1 h)), if_neg ht]
  have hnow : awaitedR c l ≠ 0 → s.now = lastT l := fun h0 => h.now (by
    intro e
    have := awaited_len h0
    rw [e] at this
    exact absurd this (by decide))
  clear h2 ht
  obtain ⟨i1, i2, i3, i4, i5, i6, i7, i8, _, i10⟩ := h
  have hst : stR l = ⟨0, (heldR l).isSome, ((heldR l).getD ev0).ip, ((heldR l).getD ev0).till, underR l, overR l, failsR l l.length, restR l, 0⟩ := rfl
  unfold wantR lapsR byKindR
  rw [hst]
  have haw : awaitedR c l = 0 ∨ awaitedR c l = 5 ∨ awaitedR c l = 7 := by
    unfold awaitedR
    repeat' split
    all_goals simp
  generalize awaitedR c l = aw at *
  generalize (heldR l).isSome = hd at *
  generalize (heldR l).getD ev0 = hv at *
  generalize underR l = un at *
  generalize overR l = ov at *
  generalize failsR l l.length = fa at *
  generalize restR l = re at *
  generalize lastT l = lt at *
  clear hst
  obtain ⟨now, held, ip, till, under, over, fails, ready, awaited⟩ := s
  obtain ⟨kind, time, eip, etill, why, len, a, cap, data⟩ := e
  obtain ⟨vkind, vtime, vip, vtill, vwhy, vlen, va, vcap, vdata⟩ := hv
  simp only at i1 i2 i3 i4 i5 i6 i7 i8 i10 hk1 hk7 hnow
  subst i1 i4 i5 i6 i7 i8
  have hk : kind = 1 ∨ kind = 2 ∨ kind = 3 ∨ kind = 4 ∨ kind = 5 ∨ kind = 6 ∨ kind = 7 := by omega
  rcases hk with rfl | rfl | rfl | rfl | rfl | rfl | rfl
  · simp only [ruleP, sentP, leaseP, rightP, lapsed, sentWrong]
    grind
  · simp only [ruleP, adoptP, adoptBad, leaseP, rightP, lapsed]
    grind
  · simp only [ruleP, dropP, dropBad, leaseP, rightP, lapsed]
    grind
  · simp only [ruleP, fetchP, fetchBad, mayP, leaseP, rightP, lapsed]
    grind
  · simp only [ruleP, failP, failBad, mayP, leaseP, rightP, lapsed]
    grind
  · simp only [ruleP, handoffP, handoffBad, leaseP, rightP, lapsed]
    grind
  · simp only [ruleP, giveUpP, leaseP, rightP, lapsed]
    grind
theorem linkR_step {c : Cfg} {s : Lk} {l : List Ev} {e : Ev} {f : Bool} (h : LinkR c s l) (h0 : (askP c s e f).1 = 0) : LinkR c (askP c s e f).2 (l ++ [e]) := by
  unfold askP at h0 ⊢
  split at h0
  · simp at h0
  rename_i hf
  rw [if_neg hf]
  split at h0
  · simp at h0
  rename_i hn
  rw [if_neg hn]
  split at h0
  · simp at h0
  rename_i hr
  rw [if_neg hr]
  split at h0
  · simp at h0
  rename_i hl
  rw [if_neg hl]
  obtain ⟨hk1, hk7, _, _⟩ := formed_bounds (e := e) (by simpa using hf)
  clear hf hn hr hl
  obtain ⟨i1, i2, i3, i4, i5, i6, i7, i8, _, i10⟩ := h
  have hs1 := heldR_snoc l e
  have hs2 := underR_snoc l e
  have hs3 := overR_snoc l e
  have hs4 := failsR_snoc l e
  have hs5 := restR_snoc l e
  have hs6 := awaitedR_snoc c l e
  have hs7 := lastT_snoc l e
  constructor
  case now =>
    intro _
    rw [hs7]
    unfold ruleP sentP adoptP dropP fetchP failP handoffP giveUpP
    repeat' split
    all_goals rfl
  all_goals
    first | rw [hs1] | skip
    first | rw [hs2] | skip
    first | rw [hs3] | skip
    first | rw [hs4] | skip
    first | rw [hs5] | skip
    first | rw [hs6] | skip
    clear hs1 hs2 hs3 hs4 hs5 hs6 hs7
    generalize heldR l = hv at *
    generalize underR l = un at *
    generalize overR l = ov at *
    generalize failsR l l.length = fa at *
    generalize restR l = re at *
    obtain ⟨now, held, ip, till, under, over, fails, ready, awaited⟩ := s
    obtain ⟨kind, time, eip, etill, why, len, a, cap, data⟩ := e
    simp only at i1 i2 i3 i4 i5 i6 i7 i8 i10 hk1 hk7
    subst i4 i5 i6 i7
    have hk : kind = 1 ∨ kind = 2 ∨ kind = 3 ∨ kind = 4 ∨ kind = 5 ∨ kind = 6 ∨ kind = 7 := by omega
    rcases hk with rfl | rfl | rfl | rfl | rfl | rfl | rfl
    all_goals
      simp only [ruleP, sentP, adoptP, dropP, fetchP, failP, handoffP, giveUpP] at h0 ⊢
      grind
theorem take_snoc_ev (l : List Ev) (k : Nat) (h : k < l.length) : l.take (k + 1) = l.take k ++ [l.getD k ev0] := by
  rw [List.take_succ_eq_append_getElem h]
  simp [List.getD, List.getElem?_eq_getElem h]
theorem linkR_all {c : Cfg} {l : List Ev} : ∀ k, k ≤ l.length → (∀ j, j < k → ruP c l j = 0) → LinkR c (stP c l k) (l.take k)
  | 0, _, _ => linkR0 c
  | k + 1, hk, h => by
    rw [take_snoc_ev l k (by omega)]
    exact linkR_step (linkR_all k (by omega) fun j hj => h j (by omega)) (h k (by omega))
theorem fau_ru {c : Cfg} {l : List Ev} {k : Nat} (hk : k < l.length) (h : ∀ j, j < k → ruP c l j = 0) : fauR c l k = ruP c l k := by
  refine linkR_same (linkR_all k (by omega) h) ?_
  rw [List.length_take, Nat.min_eq_left (by omega)]
theorem fau_low {c : Cfg} {l : List Ev} : ∀ k, k ≤ l.length → (∀ j, j < k → fauR c l j = 0) → ∀ j, j < k → ruP c l j = 0
  | 0, _, _, j, hj => absurd hj (Nat.not_lt_zero j)
  | k + 1, hk, h, j, hj => by
    have ih := fau_low k (by omega) fun i hi => h i (by omega)
    by_cases hjk : j = k
    · subst hjk
      rw [← fau_ru (by omega) ih]
      exact h j (by omega)
    · exact ih j (by omega)
/-- The judge and the reference say the same. -/
theorem says_same {c : Cfg} {l : List Ev} {a x y a' x' y' : Int} (h : Says c l a x y) (h' : SaysR c l a' x' y') : a = a' ∧ x = x' ∧ y = y' := by
  rcases h with ⟨h1, rfl, rfl, rfl⟩ | ⟨k, hk, h1, h2, rfl, rfl, rfl⟩ <;> rcases h' with ⟨g1, rfl, rfl, rfl⟩ | ⟨m, hm, g1, g2, rfl, rfl, rfl⟩
  · exact ⟨rfl, rfl, rfl⟩
  · rw [fau_ru hm fun j hj => h1 j (by omega)] at g2
    exact absurd (h1 m hm) g2
  · have := fau_low l.length (Nat.le_refl _) g1 k hk
    exact absurd this h2
  · have hg := fau_low m (by omega) g1
    rw [fau_ru hm hg] at g2 ⊢
    have : k = m := by
      rcases Nat.lt_trichotomy k m with hx | hx | hx
      · exact absurd (hg k hx) h2
      · exact hx
      · exact absurd (h1 m hx) g2
    subst this
    exact ⟨rfl, rfl, rfl⟩
/-- What the judge says does not look at where an event's bytes lie. -/
theorem ask_bare (c : Cfg) (s : Lk) (e e' : Ev) (f : Bool) (h : e'.kind = e.kind ∧ e'.time = e.time ∧ e'.ip = e.ip ∧ e'.till = e.till ∧ e'.why = e.why ∧ e'.len = e.len ∧ e'.data = e.data) : askP c s e' f = askP c s e f := by
  obtain ⟨kind, time, ip, till, why, len, a, cap, data⟩ := e
  obtain ⟨kind', time', ip', till', why', len', a', cap', data'⟩ := e'
  obtain ⟨rfl, rfl, rfl, rfl, rfl, rfl, rfl⟩ := h
  rfl
end Go.Proofs.Ythoaeolohnalnaa
