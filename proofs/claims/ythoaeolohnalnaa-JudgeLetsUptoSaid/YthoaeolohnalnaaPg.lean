/-
  What the judge says of a simple system's trace, of a handoff behind it, and of its phases.
-/
import Derived.Test.YthoaeolohnalnaaPf
import Derived.Test.YthoaeolohnalnaaJPhases
import Derived.Test.YthoaeolohnalnaaJCom
namespace Go.Proofs.Ythoaeolohnalnaa
open Go.RowKit

theorem good_says {c : Cfg} {l : List Ev} {s : Py} {a x y : Int} (h : Good c l s) (hs : Says c l a x y) : a = -1 ∧ x = 0 ∧ y = 0 := by
  rcases hs with ⟨_, h2⟩ | ⟨k, hk, _, h2, _⟩
  · exact h2
  · exact absurd (h.clean k hk) h2
def evH2 (now : Int) : Ev := ⟨6, now, 0, 0, 0, 0, none, 0, []⟩
theorem hand_says {c : Cfg} {l : List Ev} {s : Py} {a x y : Int} (h : Good c l s) (hn : lapsQ s = false) (hu : s.under = false) (hs : Says c (l ++ [evH2 s.now]) a x y) : a = (l.length : Nat) ∧ x = 11 ∧ y = 270 := by
  have hk := h.link
  have hru : ruP c (l ++ [evH2 s.now]) l.length = 11 := by
    unfold ruP
    rw [st_snoc c l _ (Nat.le_refl _), snoc_end]
    generalize decide (l.length = 0) = f
    generalize stP c l l.length = st at *
    obtain ⟨h1, h2, h3, h4, h5, h6, h7, h8, h9, h10, h11⟩ := hk
    unfold askP
    rw [if_neg (by simp only [formedP, evH2]; grind), if_neg (by show ¬ (f = false ∧ s.now < st.now); omega), if_neg (by simp only [rightP, evH2]; grind), if_neg (by simp only [lapsed, evH2, lapsQ] at hn ⊢; grind)]
    simp only [ruleP, handoffP, handoffBad, evH2]
    grind
  rcases hs with ⟨h1, _⟩ | ⟨k, hkl, h1, h2, h3, h4, h5⟩
  · have := h1 l.length (by simp)
    omega
  · rw [List.length_append, List.length_singleton] at hkl
    by_cases hkk : k < l.length
    · rw [ru_snoc c l _ hkk] at h2
      exact absurd (h.clean k hkk) h2
    · obtain rfl : k = l.length := by omega
      exact ⟨h3, h4.trans hru, h5⟩
theorem clean_phases {c : Cfg} {l : List Ev} (h : ∀ k, k < l.length → ruP c l k = 0) : phY l = 0 := by
  have hbad : ∀ k, k < l.length → phBad l k = false := by
    intro k hk
    have hL := link_all h k (by omega)
    have hR := linkR_all (c := c) (l := l) k (by omega) fun j hj => h j (by omega)
    have h0 := h k hk
    unfold ruP at h0
    unfold phBad
    rw [← hR.over]
    have hu := hL.under
    have hw := hL.wait
    clear hL hR
    generalize stP c l k = st at *
    generalize l.getD k ev0 = e at *
    generalize decide (k = 0) = f at *
    unfold askP at h0
    split at h0
    · simp at h0
    rename_i hf
    split at h0
    · simp at h0
    split at h0
    · simp at h0
    rename_i hr
    split at h0
    · simp at h0
    obtain ⟨hk1, hk7, _, _⟩ := formed_bounds (e := e) (by simpa using hf)
    have hk : e.kind = 1 ∨ e.kind = 2 ∨ e.kind = 3 ∨ e.kind = 4 ∨ e.kind = 5 ∨ e.kind = 6 ∨ e.kind = 7 := by omega
    clear hf
    obtain ⟨now, held, ip, till, under, over, fails, ready, awaited⟩ := st
    obtain ⟨kind, time, eip, etill, why, len, a, cap, data⟩ := e
    simp only at hk hu hw hk1 hk7
    rcases hk with rfl | rfl | rfl | rfl | rfl | rfl | rfl
    · simp [badP]
    · simp [badP]
    · simp [badP]
    · simp only [ruleP, fetchP, fetchBad, mayP, badP] at h0 ⊢
      grind
    · simp only [ruleP, failP, failBad, mayP, badP] at h0 ⊢
      grind
    · simp only [ruleP, handoffP, handoffBad, badP] at h0 ⊢
      grind
    · simp only [rightP, badP] at hr ⊢
      grind
  unfold phY
  cases hp : phTo l l.length with
  | none =>
    obtain ⟨j, hj, hb⟩ := (phlink_all l l.length (Nat.le_refl _)).2 hp
    rw [hbad j hj] at hb
    cases hb
  | some s => rfl
end Go.Proofs.Ythoaeolohnalnaa
