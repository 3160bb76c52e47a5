/-
  The program's phases of a trace and the reference's are the same: the pure law of JudgePhases.
-/
import Derived.Test.YthoaeolohnalnaaRj
import Derived.Test.YthoaeolohnalnaaRm
namespace Go.Proofs.Ythoaeolohnalnaa
open Go.RowKit

theorem turn_last (out : List Int) (p : Int) : (turnP out p).getLast? = some p := by
  unfold turnP
  split
  · assumption
  · simp
theorem turn_same {out : List Int} {x : Int} (h : out.getLast? = some x) : turnP out x = out := by
  unfold turnP
  rw [if_pos h]
structure PhLink (l : List Ev) (k : Nat) (s : PhS) : Prop where
  good : ∀ j, j < k → phBad l j = false
  out : s.1 = phR l k
  over : s.2.2 = overR (l.take k)
  under : s.2.2 = false → s.2.1 = underR (l.take k)
  ends : s.2.2 = true → s.1.getLast? = some 3 ∨ s.1.getLast? = some 4
  last : ∃ x, s.1.getLast? = some x
theorem up_last {l : List Ev} {k : Nat} (hk : k < l.length) : (decide (k + 1 = l.length) = true ∨ ¬ (l.getD (k + 1) ev0).kind = 7) ↔ upR l k = false := by
  unfold upR
  rw [Bool.and_eq_false_iff, decide_eq_true_eq, decide_eq_false_iff_not, decide_eq_false_iff_not]
  constructor
  · rintro (h | h)
    · exact .inl (by omega)
    · exact .inr h
  · rintro (h | h)
    · exact .inl (by omega)
    · exact .inr h
theorem phlink_step {l : List Ev} {k : Nat} {s : PhS} (hk : k < l.length) (h : PhLink l k s) : (∀ s', phStep l k s = some s' → PhLink l (k + 1) s') ∧ (phStep l k s = none → phBad l k = true) := by
  obtain ⟨out, u, o⟩ := s
  obtain ⟨hg, h1, h2, h3, h4, x, hx⟩ := h
  simp only at h1 h2 h3 h4 hx
  have hup := up_last hk
  have hbad : phBad l k = badP (l.getD k ev0).kind o := by unfold phBad; rw [← h2]
  have hR : phR l (k + 1) = turnP out (phaseP (l.getD k ev0).kind (l.getD k ev0).why (upR l k) (underR (l.take k)) x) := by
    show turnP (phR l k) (phaseP (l.getD k ev0).kind (l.getD k ev0).why (upR l k) (underR (l.take k)) ((phR l k).getLast?.getD 0)) = _
    rw [← h1, hx]
    rfl
  have hsame := turn_same hx
  have ht := take_snoc_ev l k hk
  have hov : overR (l.take (k + 1)) = if (l.getD k ev0).kind = 6 ∨ (l.getD k ev0).kind = 7 then true else o := by rw [ht, overR_snoc, ← h2]
  have hun : underR (l.take (k + 1)) = if (l.getD k ev0).kind = 4 then true else if (l.getD k ev0).kind = 5 ∨ (l.getD k ev0).kind = 6 then false else underR (l.take k) := by rw [ht, underR_snoc]
  have hgood : phBad l k = false → ∀ j, j < k + 1 → phBad l j = false := fun h0 j hj => by
    by_cases hjk : j = k
    · rw [hjk]; exact h0
    · exact hg j (by omega)
  have key : phStep l k (out, u, o) = phStepE (l.getD k ev0) (decide (k + 1 = l.length)) (l.getD (k + 1) ev0).kind (out, u, o) := rfl
  rw [key]
  have huo : o = false → u = underR (l.take k) := h3
  clear h3 key ht h2 hg
  generalize l.getD k ev0 = e at *
  generalize (l.getD (k + 1) ev0).kind = nk at *
  generalize decide (k + 1 = l.length) = la at *
  generalize upR l k = up at *
  generalize underR (l.take k) = un at *
  obtain ⟨kind, time, ip, till, why, len, a, cap, data⟩ := e
  simp only [phStepE] at hbad hR hov hun ⊢
  by_cases k1 : kind = 1 ∨ kind = 2
  · rw [if_pos k1]
    refine ⟨fun s' hs => ?_, fun hs => (by cases hs)⟩
    obtain rfl := Option.some.inj hs
    have hp : phaseP kind why up un x = x := by
      unfold phaseP
      rw [if_neg (by omega), if_neg (by omega), if_neg (by omega), if_neg (by omega), if_neg (by omega)]
    rw [hp, hsame] at hR
    exact ⟨hgood (by rw [hbad]; unfold badP; simp; omega), hR.symm, by show o = _; rw [hov, if_neg (by omega)], fun h0 => by show u = _; rw [hun, if_neg (by omega), if_neg (by omega)]; exact huo h0, h4, x, hx⟩
  rw [if_neg k1]
  by_cases k3 : kind = 3
  · subst k3
    rw [if_pos rfl]
    refine ⟨fun s' hs => ?_, fun hs => (by cases hs)⟩
    obtain rfl := Option.some.inj hs
    have hb0 : badP 3 o = false := by unfold badP; simp
    have hp : phaseP 3 why up un x = if x = 2 ∧ un = false then 1 else x := by
      unfold phaseP
      simp
    have hout : (if out.getLast? = some 2 ∧ u = false then turnP out 1 else out) = phR l (k + 1) := by
      rw [hR, hp, hx]
      cases ho : o
      · rw [← huo ho]
        by_cases hc : x = 2 ∧ u = false
        · rw [if_pos (by simpa using hc), if_pos hc]
        · rw [if_neg (by simpa using hc), if_neg hc, hsame]
      · have hx2 : ¬ x = 2 := by
          have := h4 ho
          rw [hx] at this
          rcases this with h | h
          · have := Option.some.inj h; omega
          · have := Option.some.inj h; omega
        rw [if_neg (by simp [hx2]), if_neg (by simp [hx2]), hsame]
    refine ⟨hgood (by rw [hbad]; exact hb0), hout, by show o = _; rw [hov]; simp, fun h0 => by show u = _; rw [hun]; simp; exact huo h0, fun h0 => ?_, ?_⟩
    · have ho : o = true := h0
      show (if out.getLast? = some 2 ∧ u = false then turnP out 1 else out).getLast? = _ ∨ _
      have := h4 ho
      rw [hx] at this ⊢
      have hx2 : ¬ (some x = some 2 ∧ u = false) := by
        rintro ⟨h, _⟩
        have h' := Option.some.inj h
        subst h'
        rcases this with h | h <;> cases h
      rw [if_neg hx2]
      show out.getLast? = _ ∨ out.getLast? = _
      rw [hx]
      exact this
    · show ∃ y, (if out.getLast? = some 2 ∧ u = false then turnP out 1 else out).getLast? = some y
      split
      · exact ⟨_, turn_last _ _⟩
      · exact ⟨_, hx⟩
  rw [if_neg k3]
  by_cases k4 : 4 ≤ kind ∧ kind ≤ 7
  · rw [if_pos k4]
    cases ho : o
    · subst ho
      have hb0 : badP kind false = false := by unfold badP; simp; omega
      have hg2 := hgood (by rw [hbad]; exact hb0)
      have hu := huo rfl
      simp only [Bool.false_eq_true, if_false]
      by_cases c1 : kind = 4 ∨ (kind = 5 ∧ why = 7)
      · rw [if_pos c1]
        refine ⟨fun s' hs => ?_, fun hs => (by cases hs)⟩
        obtain rfl := Option.some.inj hs
        have hp : phaseP kind why up un x = 2 := by unfold phaseP; rw [if_pos c1]
        rw [hp] at hR
        refine ⟨hg2, hR.symm, by show false = _; rw [hov, if_neg (by omega)], fun _ => ?_, fun h0 => (by cases h0), _, turn_last _ _⟩
        show decide (kind = 4) = _
        rw [hun]
        by_cases h4' : kind = 4
        · simp [h4']
        · rw [if_neg h4', if_pos (by omega)]; simp [h4']
      rw [if_neg c1]
      by_cases c2 : kind = 5 ∧ why = 6 ∧ (la = true ∨ ¬ nk = 7)
      · rw [if_pos c2]
        refine ⟨fun s' hs => ?_, fun hs => (by cases hs)⟩
        obtain rfl := Option.some.inj hs
        have hu0 := hup.1 c2.2.2
        have hp : phaseP kind why up un x = 1 := by unfold phaseP; rw [if_neg c1, if_neg (by omega), if_neg (by omega), if_pos ⟨c2.1, c2.2.1, hu0⟩]
        rw [hp] at hR
        exact ⟨hg2, hR.symm, by show false = _; rw [hov, if_neg (by omega)], fun _ => by show false = _; rw [hun, if_neg (by omega), if_pos (.inl c2.1)], fun h0 => (by cases h0), _, turn_last _ _⟩
      rw [if_neg c2]
      by_cases c3 : kind = 6
      · rw [if_pos c3]
        refine ⟨fun s' hs => ?_, fun hs => (by cases hs)⟩
        obtain rfl := Option.some.inj hs
        have hp : phaseP kind why up un x = 3 := by unfold phaseP; rw [if_neg c1, if_pos c3]
        rw [hp] at hR
        exact ⟨hg2, hR.symm, by show true = _; rw [hov, if_pos (.inl c3)], fun h0 => (by cases h0), fun _ => .inl (turn_last _ _), _, turn_last _ _⟩
      rw [if_neg c3]
      by_cases c4 : kind = 7
      · rw [if_pos c4]
        refine ⟨fun s' hs => ?_, fun hs => (by cases hs)⟩
        obtain rfl := Option.some.inj hs
        have hp : phaseP kind why up un x = 4 := by unfold phaseP; rw [if_neg c1, if_neg c3, if_pos c4]
        rw [hp] at hR
        exact ⟨hg2, hR.symm, by show true = _; rw [hov, if_pos (.inr c4)], fun h0 => (by cases h0), fun _ => .inr (turn_last _ _), _, turn_last _ _⟩
      rw [if_neg c4]
      refine ⟨fun s' hs => ?_, fun hs => (by cases hs)⟩
      obtain rfl := Option.some.inj hs
      have c5 : kind = 5 := by omega
      have hp : phaseP kind why up un x = x := by
        unfold phaseP
        rw [if_neg c1, if_neg c3, if_neg c4, if_neg (fun h => c2 ⟨h.1, h.2.1, hup.2 h.2.2⟩), if_neg (by omega)]
      rw [hp, hsame] at hR
      exact ⟨hg2, hR.symm, by show false = _; rw [hov, if_neg (by omega)], fun _ => by show false = _; rw [hun, if_neg (by omega), if_pos (.inl c5)], fun h0 => (by cases h0), x, hx⟩
    · simp only [if_true]
      refine ⟨fun s2 hs => (by cases hs), fun _ => ?_⟩
      rw [hbad, ho]
      unfold badP
      simp [k4.1]
  rw [if_neg k4]
  refine ⟨fun s2 hs => (by cases hs), fun _ => ?_⟩
  rw [hbad]
  unfold badP
  simp
  omega
theorem phlink_all (l : List Ev) : ∀ k, k ≤ l.length → (∀ s, phTo l k = some s → PhLink l k s) ∧ (phTo l k = none → ∃ j, j < k ∧ phBad l j = true)
  | 0, _ => ⟨fun s hs => by
      obtain rfl : ([1], false, false) = s := Option.some.inj hs
      exact ⟨fun j hj => absurd hj (by omega), rfl, rfl, fun _ => rfl, fun h => Bool.noConfusion h, 1, rfl⟩, fun h => by cases h⟩
  | k + 1, hk => by
    have ih := phlink_all l k (by omega)
    have e : phTo l (k + 1) = (phTo l k).bind (phStep l k) := rfl
    rw [e]
    cases hp : phTo l k with
    | none =>
      refine ⟨fun s2 hs => (by cases hs), fun _ => ?_⟩
      obtain ⟨j, hj, hb⟩ := ih.2 hp
      exact ⟨j, by omega, hb⟩
    | some s =>
      have hst := phlink_step (by omega) (ih.1 s hp)
      exact ⟨fun s' hs => hst.1 s' hs, fun hs => ⟨k, by omega, hst.2 hs⟩⟩
/-- What a slice of numbers reads as. -/
def Ints (W : World) (v : Value) (L : List Int) : Prop := RV W v (IC L)
/-- Both say the same. -/
theorem phs_same {W W' : World} {b b' : Nat} {l : List Ev} {v v' : Value} {y y' : Int} (h : Phs W b l v y) (h' : PhsR W' b' l v' y') :
    y = y' ∧ ((v = .slice none 0 0 ∧ v' = .slice none 0 0) ∨ ∃ L : List Int, W.ownsRow b 3 1 v L.length (IC L) ∧ W'.ownsRow b' 3 1 v' L.length (IC L) ∧ L.length ≤ l.length + 1) := by
  have hall := phlink_all l l.length (Nat.le_refl _)
  rcases h with ⟨h1, rfl, rfl⟩ | ⟨out, u, o, h1, h2, rfl⟩ <;> rcases h' with ⟨⟨k, hk, g1⟩, rfl, rfl⟩ | ⟨g1, g2, rfl⟩
  · exact ⟨rfl, .inl ⟨rfl, rfl⟩⟩
  · obtain ⟨j, hj, hb⟩ := hall.2 h1
    rw [g1 j hj] at hb
    cases hb
  · have := (hall.1 _ h1).good k hk
    rw [this] at g1
    cases g1
  · have hL := (hall.1 _ h1).out
    simp only at hL
    subst hL
    refine ⟨rfl, .inr ⟨_, h2, g2, ?_⟩⟩
    have hlen : ∀ k, (phR l k).length ≤ k + 1 := by
      intro k
      induction k with
      | zero => exact Nat.le_refl _
      | succ k ih =>
        show (turnP (phR l k) _).length ≤ _
        unfold turnP
        split
        · omega
        · simp; omega
    exact hlen _
end Go.Proofs.Ythoaeolohnalnaa
