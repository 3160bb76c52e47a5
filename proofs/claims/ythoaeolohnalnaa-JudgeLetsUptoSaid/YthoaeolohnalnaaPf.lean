/-
  A simple system that keeps to the rules is let: the pure law of JudgeLets.
-/
import Derived.Test.YthoaeolohnalnaaPd
import Derived.Test.YthoaeolohnalnaaRn
namespace Go.Proofs.Ythoaeolohnalnaa
open Go.RowKit

structure PAct where
  kind : Int
  ticks : Int
  n : Int
  ip : Int
def tickQ (s : Py) (a : PAct) : Py := if 0 < a.ticks ∧ a.ticks < 1125899906842624 - s.now then { s with now := s.now + a.ticks } else s
def lapsQ (s : Py) : Bool := s.held && (!decide (s.till = -1) && decide (s.till ≤ s.now))
def lapseQ (c : Cfg) (l : List Ev) (s : Py) : List Ev × Py := if lapsQ s = true then dropQ c l s else (l, s)
def mayQ (s : Py) : Bool := s.held && (!s.under && (!s.over && decide (s.ready ≤ s.now)))
def sentE (c : Cfg) (s : Py) (n : Int) (gd : Nat) : Ev := ⟨1, s.now, 0, 0, 0, 0, some ⟨gd, 0, none⟩, 60, frameQ c.mac (if s.held = true ∧ n % 2 = 0 then s.ip else 0)⟩
def tillQ (s : Py) (n : Int) : Int := if 0 < n ∧ n ≤ 1125899906842624 - s.now then s.now + n else -1
def actQ (c : Cfg) (l : List Ev) (s : Py) (a : PAct) (gd : Nat) : List Ev × Py :=
  if a.kind = 1 then (l ++ [sentE c s a.n gd], s)
  else if a.kind = 2 then (if s.held = true ∨ hostP a.ip = true then (l ++ [⟨2, s.now, if s.held = true then s.ip else a.ip, tillQ s a.n, 0, 0, none, 0, []⟩], { s with ip := if s.held = true then s.ip else a.ip, held := true, till := tillQ s a.n }) else (l, s))
  else if a.kind = 3 then (if s.held = true then dropQ c l s else (l, s))
  else if a.kind = 4 then (if mayQ s = true ∧ hostP a.ip = true then (l ++ [⟨4, s.now, a.ip, 0, 0, 0, none, 0, []⟩], { s with under := true }) else (l, s))
  else if a.kind = 5 then (if s.under = true ∧ 1 ≤ a.n ∧ a.n ≤ 5 then failQ c l s a.n else if mayQ s = true ∧ a.n = 7 then failQ c l s 7 else (l, s))
  else if a.kind = 6 then (if s.under = true ∧ 0 ≤ a.n ∧ a.n ≤ c.most then (l ++ [⟨6, s.now, 0, 0, 0, a.n, none, 0, []⟩], { s with under := false, over := true }) else (l, s))
  else (l, s)
structure LinkP (st : Lk) (s : Py) : Prop where
  held : st.held = s.held
  ip : s.held = true → st.ip = s.ip ∧ st.till = s.till ∧ hostP s.ip = true
  under : st.under = s.under
  over : st.over = s.over
  fails : st.fails = s.fails
  ready : s.over = false → st.ready = s.ready
  aw : st.awaited = 0
  tm : st.now ≤ s.now
  ends : s.over = true → s.under = false
  ip0 : 0 ≤ s.ip ∧ s.ip < 4294967296
  now0 : 0 ≤ s.now ∧ s.now ≤ 1125899906842624
structure Good (c : Cfg) (l : List Ev) (s : Py) : Prop where
  clean : ∀ k, k < l.length → ruP c l k = 0
  link : LinkP (stP c l l.length) s
  fails : 0 ≤ s.fails ∧ s.fails ≤ (l.length : Nat)
theorem st_snoc (c : Cfg) (l : List Ev) (e : Ev) {k : Nat} (hk : k ≤ l.length) : stP c (l ++ [e]) k = stP c l k := by
  have := stP_take c (l ++ [e]) l.length k hk
  rw [List.take_left'] at this
  · exact this.symm
  · rfl
theorem ru_snoc (c : Cfg) (l : List Ev) (e : Ev) {k : Nat} (hk : k < l.length) : ruP c (l ++ [e]) k = ruP c l k := by
  unfold ruP
  rw [st_snoc c l e (by omega), snoc_low l e hk]
theorem cl_snoc {c : Cfg} {l : List Ev} {e : Ev} (hc : ∀ k, k < l.length → ruP c l k = 0) (h0 : (askP c (stP c l l.length) e (decide (l.length = 0))).1 = 0) :
    (∀ k, k < (l ++ [e]).length → ruP c (l ++ [e]) k = 0) ∧ stP c (l ++ [e]) (l ++ [e]).length = (askP c (stP c l l.length) e (decide (l.length = 0))).2 := by
  constructor
  · intro k hk
    rw [List.length_append, List.length_singleton] at hk
    by_cases hkl : k < l.length
    · rw [ru_snoc c l e hkl]
      exact hc k hkl
    · obtain rfl : k = l.length := by omega
      unfold ruP
      rw [st_snoc c l e (Nat.le_refl _), snoc_end]
      exact h0
  · rw [List.length_append, List.length_singleton]
    show (askP c (stP c (l ++ [e]) l.length) ((l ++ [e]).getD l.length ev0) (decide (l.length = 0))).2 = _
    rw [st_snoc c l e (Nat.le_refl _), snoc_end]
/-- An event that may be: what the state behind it is. -/
theorem ask_good {c : Cfg} {st st' : Lk} {e : Ev} {f : Bool} (hf : formedP e = true) (ht : st.now ≤ e.time) (hr : rightP st e = true) (hl : lapsed st e = false) (h : ruleP c { st with awaited := 0, now := e.time } e = (0, st')) : askP c st e f = (0, st') := by
  unfold askP
  rw [if_neg (by rw [hf]; simp), if_neg (by omega), if_neg (by rw [hr]; simp), if_neg (by rw [hl]; simp), h]
theorem good_fail_one {c : Cfg} {st : Lk} {s : Py} {why : Int} {f : Bool} (h : LinkP st s) (hn : lapsQ s = false) (hw : (1 ≤ why ∧ why ≤ 5 ∧ s.under = true) ∨ (why = 7 ∧ mayQ s = true)) :
    askP c st (evF2 s.now why) f = (0, { st with now := s.now, under := false, fails := st.fails + 1, ready := readyP s.now (backoff st.fails), awaited := if st.fails + 1 = c.att then 7 else 0 }) := by
  obtain ⟨h1, h2, h3, h4, h5, h6, h7, h8, h9, h10, h11⟩ := h
  obtain ⟨now, held, ip, till, under, over, fails, ready, awaited⟩ := st
  obtain ⟨snow, sfails, sip, still, sheld, sunder, sover, sready⟩ := s
  simp only at h1 h2 h3 h4 h5 h6 h7 h8 h9 h10 h11 hw ⊢
  subst h1 h3 h4 h5 h7
  refine ask_good ?_ h8 ?_ ?_ ?_
  · simp only [formedP, evF2]
    grind
  · simp only [rightP, evF2]
    grind
  · simp only [lapsed, evF2, lapsQ] at hn ⊢
    grind
  · simp only [ruleP, failP, failBad, mayP, evF2, mayQ] at hw ⊢
    grind
theorem good_fail {c : Cfg} {l : List Ev} {s : Py} {why : Int} (h : Good c l s) (hn : lapsQ s = false) (hw : (1 ≤ why ∧ why ≤ 5 ∧ s.under = true) ∨ (why = 7 ∧ mayQ s = true)) : Good c (failQ c l s why).1 (failQ c l s why).2 := by
  have e1 := good_fail_one (c := c) (f := decide (l.length = 0)) h.link hn hw
  have c1 := cl_snoc (e := evF2 s.now why) h.clean (by rw [e1])
  rw [e1] at c1
  have hk := h.link
  generalize hst : stP c l l.length = st at *
  unfold failQ
  by_cases ha : s.fails + 1 = c.att
  · rw [if_pos ha]
    have hf : st.fails + 1 = c.att := by rw [hk.fails]; exact ha
    have e2 : askP c (stP c (l ++ [evF2 s.now why]) (l ++ [evF2 s.now why]).length) (evG s.now) (decide ((l ++ [evF2 s.now why]).length = 0)) = (0, { st with now := s.now, under := false, fails := st.fails + 1, ready := readyP s.now (backoff st.fails), awaited := 0, over := true }) := by
      rw [c1.2]
      simp only
      rw [if_pos hf]
      obtain ⟨h1, h2, h3, h4, h5, h6, h7, h8, h9, h10, h11⟩ := hk
      refine ask_good ?_ (Int.le_refl _) ?_ ?_ ?_
      · simp only [formedP, evG]
        grind
      · simp only [rightP, evG]
        grind
      · simp only [lapsed, evG, lapsQ] at hn ⊢
        grind
      · simp only [ruleP, giveUpP, evG]
        grind
    have c2 := cl_snoc (e := evG s.now) c1.1 (by rw [e2])
    rw [e2] at c2
    refine ⟨c2.1, ?_, ?_⟩
    · rw [c2.2]
      obtain ⟨h1, h2, h3, h4, h5, h6, h7, h8, h9, h10, h11⟩ := hk
      exact ⟨h1, h2, rfl, rfl, by show st.fails + 1 = s.fails + 1; rw [h5], fun h => (by cases h), rfl, Int.le_refl _, fun _ => rfl, h10, h11⟩
    · have := h.fails
      simp only [List.length_append, List.length_singleton]
      omega
  · rw [if_neg ha]
    have hf : ¬ st.fails + 1 = c.att := by rw [hk.fails]; exact ha
    refine ⟨c1.1, ?_, ?_⟩
    · rw [c1.2]
      simp only
      rw [if_neg hf]
      obtain ⟨h1, h2, h3, h4, h5, h6, h7, h8, h9, h10, h11⟩ := hk
      exact ⟨h1, h2, rfl, h4, by show st.fails + 1 = s.fails + 1; rw [h5], fun _ => by show readyP s.now (backoff st.fails) = _; rw [h5], rfl, Int.le_refl _, fun _ => rfl, h10, h11⟩
    · have := h.fails
      simp only [List.length_append, List.length_singleton]
      omega
theorem good_drop {c : Cfg} {l : List Ev} {s : Py} (h : Good c l s) (hh : s.held = true) : Good c (dropQ c l s).1 (dropQ c l s).2 ∧ (dropQ c l s).2.held = false := by
  have hk := h.link
  have e1 : askP c (stP c l l.length) (evD s.now s.ip) (decide (l.length = 0)) = (0, { stP c l l.length with now := s.now, held := false, awaited := if s.under = true then 5 else 0 }) := by
    generalize stP c l l.length = st at *
    obtain ⟨h1, h2, h3, h4, h5, h6, h7, h8, h9, h10, h11⟩ := hk
    refine ask_good ?_ h8 ?_ ?_ ?_
    · simp only [formedP, evD]
      grind
    · simp only [rightP, evD]
      grind
    · simp only [lapsed, evD]
      grind
    · simp only [ruleP, dropP, dropBad, evD]
      grind
  have c1 := cl_snoc (e := evD s.now s.ip) h.clean (by rw [e1])
  rw [e1] at c1
  generalize hst : stP c l l.length = st at *
  unfold dropQ
  by_cases hu : s.under = true
  · rw [if_pos hu]
    rw [if_pos hu] at c1
    have e2 : askP c (stP c (l ++ [evD s.now s.ip]) (l ++ [evD s.now s.ip]).length) (evF2 s.now 6) (decide ((l ++ [evD s.now s.ip]).length = 0)) = (0, { st with now := s.now, held := false, under := false, fails := st.fails + 1, ready := readyP s.now (backoff st.fails), awaited := if st.fails + 1 = c.att then 7 else 0 }) := by
      rw [c1.2]
      obtain ⟨h1, h2, h3, h4, h5, h6, h7, h8, h9, h10, h11⟩ := hk
      refine ask_good ?_ (Int.le_refl _) ?_ ?_ ?_
      · simp only [formedP, evF2]
        grind
      · simp only [rightP, evF2]
        grind
      · simp only [lapsed, evF2]
        grind
      · simp only [ruleP, failP, failBad, mayP, evF2]
        grind
    have c2 := cl_snoc (e := evF2 s.now 6) c1.1 (by rw [e2])
    rw [e2] at c2
    unfold failQ
    by_cases ha : s.fails + 1 = c.att
    · rw [if_pos ha]
      have hf : st.fails + 1 = c.att := by rw [hk.fails]; exact ha
      have e3 : askP c (stP c (l ++ [evD s.now s.ip] ++ [evF2 s.now 6]) (l ++ [evD s.now s.ip] ++ [evF2 s.now 6]).length) (evG s.now) (decide ((l ++ [evD s.now s.ip] ++ [evF2 s.now 6]).length = 0)) = (0, { st with now := s.now, held := false, under := false, fails := st.fails + 1, ready := readyP s.now (backoff st.fails), awaited := 0, over := true }) := by
        rw [c2.2]
        simp only
        rw [if_pos hf]
        refine ask_good ?_ (Int.le_refl _) ?_ ?_ ?_
        · obtain ⟨h1, h2, h3, h4, h5, h6, h7, h8, h9, h10, h11⟩ := hk
          simp only [formedP, evG]
          grind
        · simp only [rightP, evG]
          grind
        · simp only [lapsed, evG]
          grind
        · simp only [ruleP, giveUpP, evG]
          grind
      have c3 := cl_snoc (e := evG s.now) c2.1 (by rw [e3])
      rw [e3] at c3
      refine ⟨⟨c3.1, ?_, ?_⟩, rfl⟩
      · rw [c3.2]
        obtain ⟨h1, h2, h3, h4, h5, h6, h7, h8, h9, h10, h11⟩ := hk
        exact ⟨rfl, fun h => (by cases h), rfl, rfl, by show st.fails + 1 = s.fails + 1; rw [h5], fun h => (by cases h), rfl, Int.le_refl _, fun _ => rfl, h10, h11⟩
      · have := h.fails
        simp only [List.length_append, List.length_singleton]
        omega
    · rw [if_neg ha]
      have hf : ¬ st.fails + 1 = c.att := by rw [hk.fails]; exact ha
      refine ⟨⟨c2.1, ?_, ?_⟩, rfl⟩
      · rw [c2.2]
        simp only
        rw [if_neg hf]
        obtain ⟨h1, h2, h3, h4, h5, h6, h7, h8, h9, h10, h11⟩ := hk
        exact ⟨rfl, fun h => (by cases h), rfl, h4, by show st.fails + 1 = s.fails + 1; rw [h5], fun _ => by show readyP s.now (backoff st.fails) = _; rw [h5], rfl, Int.le_refl _, fun _ => rfl, h10, h11⟩
      · have := h.fails
        simp only [List.length_append, List.length_singleton]
        omega
  · rw [if_neg hu]
    rw [if_neg hu] at c1
    refine ⟨⟨c1.1, ?_, ?_⟩, rfl⟩
    · rw [c1.2]
      obtain ⟨h1, h2, h3, h4, h5, h6, h7, h8, h9, h10, h11⟩ := hk
      exact ⟨rfl, fun h => (by cases h), h3, h4, h5, h6, rfl, Int.le_refl _, h9, h10, h11⟩
    · have := h.fails
      simp only [List.length_append, List.length_singleton]
      omega
theorem good_tick {c : Cfg} {l : List Ev} {s : Py} (h : Good c l s) (a : PAct) : Good c l (tickQ s a) := by
  unfold tickQ
  split
  · rename_i ht
    obtain ⟨g1, ⟨h1, h2, h3, h4, h5, h6, h7, h8, h9, h10, h11⟩, g3⟩ := h
    exact ⟨g1, ⟨h1, h2, h3, h4, h5, h6, h7, by show _ ≤ s.now + a.ticks; omega, h9, h10, by show 0 ≤ s.now + a.ticks ∧ s.now + a.ticks ≤ _; omega⟩, g3⟩
  · exact h
theorem good_lapse {c : Cfg} {l : List Ev} {s : Py} (h : Good c l s) : Good c (lapseQ c l s).1 (lapseQ c l s).2 ∧ lapsQ (lapseQ c l s).2 = false := by
  unfold lapseQ
  by_cases hl : lapsQ s = true
  · rw [if_pos hl]
    have hh : s.held = true := by
      unfold lapsQ at hl
      cases hs : s.held
      · rw [hs] at hl
        cases hl
      · rfl
    obtain ⟨h1, h2⟩ := good_drop h hh
    refine ⟨h1, ?_⟩
    unfold lapsQ
    rw [h2]
    rfl
  · rw [if_neg hl]
    exact ⟨h, by simpa using hl⟩
theorem good_one {c : Cfg} {l : List Ev} {s s' : Py} {e : Ev} {st' : Lk} (h : Good c l s) (h1 : askP c (stP c l l.length) e (decide (l.length = 0)) = (0, st')) (h2 : LinkP st' s') (h3 : s'.fails = s.fails) : Good c (l ++ [e]) s' := by
  have c1 := cl_snoc (e := e) h.clean (by rw [h1])
  rw [h1] at c1
  refine ⟨c1.1, by rw [c1.2]; exact h2, ?_⟩
  have := h.fails
  rw [h3, List.length_append, List.length_singleton]
  omega
theorem good_act {c : Cfg} {l : List Ev} {s : Py} {a : PAct} {gd : Nat} (hc : c.ok) (h : Good c l s) (hn : lapsQ s = false) (hi : 0 ≤ a.ip ∧ a.ip < 4294967296) : Good c (actQ c l s a gd).1 (actQ c l s a gd).2 ∧ lapsQ (actQ c l s a gd).2 = false := by
  have hk := h.link
  unfold actQ
  by_cases k1 : a.kind = 1
  · rw [if_pos k1]
    refine ⟨good_one h (st' := { stP c l l.length with now := s.now, awaited := 0 }) ?_ ?_ rfl, hn⟩
    · generalize stP c l l.length = st at *
      obtain ⟨h1, h2, h3, h4, h5, h6, h7, h8, h9, h10, h11⟩ := hk
      have hip : 0 ≤ (if s.held = true ∧ a.n % 2 = 0 then s.ip else 0) ∧ (if s.held = true ∧ a.n % 2 = 0 then s.ip else 0) < 4294967296 := by
        split <;> omega
      obtain ⟨f1, f2, f3, f4, f5⟩ := frame_facts hc.mac hip.1 hip.2
      refine ask_good ?_ h8 ?_ ?_ ?_
      · simp only [formedP, sentE]
        grind
      · simp only [rightP, sentE]
        grind
      · simp only [lapsed, sentE, lapsQ] at hn ⊢
        grind
      · have hb : sentBad c (sentE c s a.n gd) = false := by
          simp only [sentBad, sentE, f1, f2, f3]
          simp
        have hw : sentWrong { st with awaited := 0, now := (sentE c s a.n gd).time } (sentE c s a.n gd) = false := by
          simp only [sentWrong, sentE, f4, f5]
          grind
        have he : (sentE c s a.n gd).kind = 1 := rfl
        unfold ruleP sentP
        rw [if_pos he, hb, hw]
        rfl
    · obtain ⟨h1, h2, h3, h4, h5, h6, h7, h8, h9, h10, h11⟩ := hk
      exact ⟨h1, h2, h3, h4, h5, h6, rfl, Int.le_refl _, h9, h10, h11⟩
  rw [if_neg k1]
  by_cases k2 : a.kind = 2
  · rw [if_pos k2]
    by_cases hh : s.held = true ∨ hostP a.ip = true
    · rw [if_pos hh]
      have hti : tillQ s a.n = -1 ∨ (s.now < tillQ s a.n ∧ tillQ s a.n ≤ 1125899906842624) := by
        unfold tillQ
        split
        · right; omega
        · left; rfl
      generalize tillQ s a.n = till at *
      have hho : hostP (if s.held = true then s.ip else a.ip) = true := by
        by_cases hs : s.held = true
        · rw [if_pos hs]; exact (hk.ip hs).2.2
        · rw [if_neg hs]
          rcases hh with h | h
          · exact absurd h hs
          · exact h
      have hib : 0 ≤ (if s.held = true then s.ip else a.ip) ∧ (if s.held = true then s.ip else a.ip) < 4294967296 := by
        have := hk.ip0
        split <;> omega
      have hheld : s.held = true → (if s.held = true then s.ip else a.ip) = s.ip := fun h => if_pos h
      generalize (if s.held = true then s.ip else a.ip) = ip at *
      refine ⟨good_one h (st' := { stP c l l.length with now := s.now, awaited := 0, held := true, ip := ip, till := till }) ?_ ?_ rfl, ?_⟩
      · generalize stP c l l.length = st at *
        obtain ⟨h1, h2, h3, h4, h5, h6, h7, h8, h9, h10, h11⟩ := hk
        refine ask_good ?_ h8 ?_ ?_ ?_
        · simp only [formedP]
          grind
        · simp only [rightP]
          grind
        · simp only [lapsed, lapsQ] at hn ⊢
          grind
        · simp only [ruleP, adoptP, adoptBad]
          grind
      · obtain ⟨h1, h2, h3, h4, h5, h6, h7, h8, h9, h10, h11⟩ := hk
        exact ⟨rfl, fun _ => ⟨rfl, rfl, hho⟩, h3, h4, h5, h6, rfl, Int.le_refl _, h9, hib, h11⟩
      · simp only [lapsQ]
        grind
    · rw [if_neg hh]
      exact ⟨h, hn⟩
  rw [if_neg k2]
  by_cases k3 : a.kind = 3
  · rw [if_pos k3]
    by_cases hh : s.held = true
    · rw [if_pos hh]
      obtain ⟨g1, g2⟩ := good_drop h hh
      refine ⟨g1, ?_⟩
      unfold lapsQ
      rw [g2]
      rfl
    · rw [if_neg hh]
      exact ⟨h, hn⟩
  rw [if_neg k3]
  by_cases k4 : a.kind = 4
  · rw [if_pos k4]
    by_cases hh : mayQ s = true ∧ hostP a.ip = true
    · rw [if_pos hh]
      refine ⟨good_one h (st' := { stP c l l.length with now := s.now, awaited := 0, under := true }) ?_ ?_ rfl, hn⟩
      · generalize stP c l l.length = st at *
        obtain ⟨h1, h2, h3, h4, h5, h6, h7, h8, h9, h10, h11⟩ := hk
        refine ask_good ?_ h8 ?_ ?_ ?_
        · simp only [formedP]
          grind
        · simp only [rightP]
          grind
        · simp only [lapsed, lapsQ] at hn ⊢
          grind
        · simp only [ruleP, fetchP, fetchBad, mayP, mayQ] at hh ⊢
          grind
      · obtain ⟨h1, h2, h3, h4, h5, h6, h7, h8, h9, h10, h11⟩ := hk
        exact ⟨h1, h2, rfl, h4, h5, h6, rfl, Int.le_refl _, fun ho => (by have hm := hh.1; unfold mayQ at hm; have ho' : s.over = true := ho; rw [ho'] at hm; simp at hm), h10, h11⟩
    · rw [if_neg hh]
      exact ⟨h, hn⟩
  rw [if_neg k4]
  have hlf : ∀ why, lapsQ (failQ c l s why).2 = false := fun why => by
    unfold failQ
    split <;> exact hn
  by_cases k5 : a.kind = 5
  · rw [if_pos k5]
    by_cases hu : s.under = true ∧ 1 ≤ a.n ∧ a.n ≤ 5
    · rw [if_pos hu]
      exact ⟨good_fail h hn (.inl ⟨hu.2.1, hu.2.2, hu.1⟩), hlf _⟩
    · rw [if_neg hu]
      by_cases hm : mayQ s = true ∧ a.n = 7
      · rw [if_pos hm]
        exact ⟨good_fail h hn (.inr ⟨rfl, hm.1⟩), hlf _⟩
      · rw [if_neg hm]
        exact ⟨h, hn⟩
  rw [if_neg k5]
  by_cases k6 : a.kind = 6
  · rw [if_pos k6]
    by_cases hu : s.under = true ∧ 0 ≤ a.n ∧ a.n ≤ c.most
    · rw [if_pos hu]
      refine ⟨good_one h (st' := { stP c l l.length with now := s.now, awaited := 0, under := false, over := true }) ?_ ?_ rfl, hn⟩
      · generalize stP c l l.length = st at *
        obtain ⟨h1, h2, h3, h4, h5, h6, h7, h8, h9, h10, h11⟩ := hk
        refine ask_good ?_ h8 ?_ ?_ ?_
        · simp only [formedP]
          grind
        · simp only [rightP]
          grind
        · simp only [lapsed, lapsQ] at hn ⊢
          grind
        · simp only [ruleP, handoffP, handoffBad]
          grind
      · obtain ⟨h1, h2, h3, h4, h5, h6, h7, h8, h9, h10, h11⟩ := hk
        exact ⟨h1, h2, rfl, rfl, h5, fun h => (by cases h), rfl, Int.le_refl _, fun _ => rfl, h10, h11⟩
    · rw [if_neg hu]
      exact ⟨h, hn⟩
  rw [if_neg k6]
  exact ⟨h, hn⟩
end Go.Proofs.Ythoaeolohnalnaa
