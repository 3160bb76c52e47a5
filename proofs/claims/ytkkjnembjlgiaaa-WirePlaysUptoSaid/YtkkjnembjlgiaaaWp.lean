/-
  The pure law of the heap: what is pushed and popped; the first one is the least.
-/
import Derived.Test.YtkkjnembjlgiaaaWb
namespace Go.Proofs.Ytkkjnembjlgiaaa
set_option maxRecDepth 100000

theorem ahead_iff (x y : Wy) : aheadB x y = true ↔ x.due < y.due ∨ (x.due = y.due ∧ x.num < y.num) := by
  unfold aheadB
  simp
theorem swapL_get (l : List Wy) {i j : Nat} (hi : i < l.length) (hj : j < l.length) (k : Nat) : (swapL l i j).getD k wy0 = if k = j then l.getD i wy0 else if k = i then l.getD j wy0 else l.getD k wy0 := by
  unfold swapL
  simp only [List.getD, List.getElem?_set, List.length_set]
  by_cases h1 : k = j
  · subst h1; simp [hj]
  · by_cases h2 : k = i
    · subst h2
      simp [h1, Ne.symm h1, hi]
    · simp [h1, h2, Ne.symm h1, Ne.symm h2]
theorem swapL_perm (l : List Wy) {i j : Nat} (hi : i < l.length) (hj : j < l.length) : (swapL l i j).Perm l := by
  have := List.set_set_perm hi hj
  unfold swapL
  simpa [List.getD, hi, hj] using this
theorem up_perm : ∀ (i : Nat) (l : List Wy), i < l.length → (up l i).Perm l := by
  intro i
  induction i using Nat.strongRecOn with
  | _ i ih =>
    intro l hi
    rw [up]
    split
    · rename_i h
      exact (ih ((i - 1) / 2) (by omega) _ (by rw [swapL_length]; omega)).trans (swapL_perm l hi (by omega))
    · exact List.Perm.refl _
theorem pushP_perm (l : List Wy) (x : Wy) : (pushP l x).Perm (x :: l) :=
  (up_perm l.length (l ++ [x]) (by simp)).trans (List.perm_append_singleton x l)
theorem kid_lt (l : List Wy) (k : Nat) (h : k < l.length) : kid l k < l.length ∧ k ≤ kid l k ∧ kid l k ≤ k + 1 := by
  unfold kid kidB
  by_cases h1 : k + 1 < l.length <;> simp [h1] <;> (try split) <;> omega
theorem down_perm : ∀ (n i : Nat) (l : List Wy), l.length - i = n → (down l i).Perm l := by
  intro n
  induction n using Nat.strongRecOn with
  | _ n ih =>
    intro i l hn
    rw [down]
    split
    · rename_i h
      obtain ⟨h1, h2, h3⟩ := kid_lt l (2 * i + 1) h.1
      exact (ih (l.length - kid l (2 * i + 1)) (by omega) _ _ (by rw [swapL_length])).trans (swapL_perm l (by omega) h1)
    · exact List.Perm.refl _
theorem popP_perm (l : List Wy) (h0 : 0 < l.length) : l.Perm (l.getD 0 wy0 :: popP l) := by
  unfold popP
  refine List.Perm.symm (((down_perm _ 0 _ rfl).cons _).trans ?_)
  match l, h0 with
  | x :: r, _ =>
    have e1 : (x :: r).length - 1 = r.length := by simp
    rw [e1]
    show (x :: ((x :: r).set 0 ((x :: r).getD r.length wy0)).take r.length).Perm (x :: r)
    refine List.Perm.cons x ?_
    rw [List.set_cons_zero]
    cases hr : r.length with
    | zero =>
      have : r = [] := List.eq_nil_of_length_eq_zero hr
      subst this
      exact List.Perm.refl _
    | succ n =>
      rw [List.take_succ_cons]
      have hd : (x :: r).getD (n + 1) wy0 = r.getD n wy0 := by simp [List.getD]
      rw [hd]
      have hn : n < r.length := by omega
      have e2 : r = r.take n ++ [r.getD n wy0] := by
        have := List.take_append_drop n r
        have h3 : r.drop n = [r.getD n wy0] := by
          rw [List.drop_eq_getElem_cons hn]
          have : r.drop (n + 1) = [] := List.drop_eq_nil_of_le (by omega)
          rw [this]
          simp [List.getD, hn]
        rw [h3] at this
        exact this.symm
      exact (List.perm_append_singleton _ _).symm.trans (by rw [← e2])
theorem popP_length (l : List Wy) (h0 : 0 < l.length) : (popP l).length = l.length - 1 := by
  have := (popP_perm l h0).length_eq
  simp at this
  omega
theorem pushP_length (l : List Wy) (x : Wy) : (pushP l x).length = l.length + 1 := by
  have := (pushP_perm l x).length_eq
  simpa using this
/-! ## The order -/
def HeapOK (l : List Wy) : Prop := ∀ i, 0 < i → i < l.length → aheadB (l.getD i wy0) (l.getD ((i - 1) / 2) wy0) = false
theorem not_ahead (x y : Wy) : aheadB x y = false ↔ (y.due < x.due ∨ (x.due = y.due ∧ y.num ≤ x.num)) := by
  have h := ahead_iff x y
  cases hb : aheadB x y
  · rw [hb] at h
    simp at h
    simp only [true_iff]
    omega
  · rw [hb] at h
    simp at h
    simp only [Bool.true_eq_false, false_iff]
    omega
theorem ahead_trans {x y z : Wy} (h1 : aheadB x y = false) (h2 : aheadB y z = false) : aheadB x z = false := by
  rw [not_ahead] at *
  omega
theorem ahead_asymm {x y : Wy} (h : aheadB x y = true) : aheadB y x = false := by
  rw [not_ahead]
  rw [ahead_iff] at h
  omega
theorem heap_min {l : List Wy} (h : HeapOK l) : ∀ i, i < l.length → aheadB (l.getD i wy0) (l.getD 0 wy0) = false := by
  intro i
  induction i using Nat.strongRecOn with
  | _ i ih =>
    intro hi
    by_cases h0 : i = 0
    · subst h0
      rw [not_ahead]
      omega
    · exact ahead_trans (h i (by omega) hi) (ih ((i - 1) / 2) (by omega) (by omega))
structure UpOK (l : List Wy) (i : Nat) : Prop where
  out : ∀ j, 0 < j → j < l.length → j ≠ i → aheadB (l.getD j wy0) (l.getD ((j - 1) / 2) wy0) = false
  kids : ∀ j, 0 < j → j < l.length → (j - 1) / 2 = i → 0 < i → aheadB (l.getD j wy0) (l.getD ((i - 1) / 2) wy0) = false
theorem up_heap : ∀ (i : Nat) (l : List Wy), i < l.length → UpOK l i → HeapOK (up l i) := by
  intro i
  induction i using Nat.strongRecOn with
  | _ i ih =>
    intro l hi h
    rw [up]
    split
    · rename_i ha
      have hp : (i - 1) / 2 < l.length := by omega
      refine ih ((i - 1) / 2) (by omega) _ (by rw [swapL_length]; omega) ⟨fun j h0 hj hne => ?_, fun j h0 hj hpj hp0 => ?_⟩
      · rw [swapL_length] at hj
        rw [swapL_get l hi hp, swapL_get l hi hp]
        by_cases e1 : j = i
        · subst e1
          simp [hne]
          exact ahead_asymm ha.2
        · by_cases e2 : (j - 1) / 2 = (i - 1) / 2
          · simp [hne, e1, e2]
            have h1 := h.out j h0 hj e1
            rw [e2] at h1
            exact ahead_trans h1 (ahead_asymm ha.2)
          · by_cases e3 : (j - 1) / 2 = i
            · simp [hne, e1, e3]
              have e4 : ¬ i = (i - 1) / 2 := by omega
              simp [e4]
              exact h.kids j h0 hj e3 ha.1
            · simp [hne, e1, e2, e3]
              exact h.out j h0 hj e1
      · rw [swapL_length] at hj
        rw [swapL_get l hi hp, swapL_get l hi hp]
        have e5 : ¬ ((i - 1) / 2 - 1) / 2 = (i - 1) / 2 := by omega
        have e6 : ¬ ((i - 1) / 2 - 1) / 2 = i := by omega
        have e7 : ¬ j = (i - 1) / 2 := by omega
        simp only [e5, e6, e7, if_false]
        have h2 := h.out ((i - 1) / 2) hp0 hp (by omega)
        by_cases e1 : j = i
        · subst e1
          simp
          exact h2
        · simp only [e1, if_false]
          have h1 := h.out j h0 hj e1
          rw [hpj] at h1
          exact ahead_trans h1 h2
    · rename_i ha
      intro j h0 hj
      by_cases e1 : j = i
      · subst e1
        cases hb : aheadB (l.getD j wy0) (l.getD ((j - 1) / 2) wy0)
        · rfl
        · exact absurd ⟨h0, hb⟩ ha
      · exact h.out j h0 hj e1
theorem pushP_heap {l : List Wy} (h : HeapOK l) (x : Wy) : HeapOK (pushP l x) := by
  refine up_heap l.length (l ++ [x]) (by simp) ⟨fun j h0 hj hne => ?_, fun j h0 hj hp _ => ?_⟩
  · have hj' : j < l.length := by simp at hj; omega
    have h1 := h j h0 hj'
    simpa [List.getD, List.getElem?_append_left hj', List.getElem?_append_left (show (j - 1) / 2 < l.length by omega)] using h1
  · simp at hj
    omega
structure DownOK (l : List Wy) (i : Nat) : Prop where
  out : ∀ j, 0 < j → j < l.length → (j - 1) / 2 ≠ i → aheadB (l.getD j wy0) (l.getD ((j - 1) / 2) wy0) = false
  kids : ∀ j, 0 < j → j < l.length → (j - 1) / 2 = i → 0 < i → aheadB (l.getD j wy0) (l.getD ((i - 1) / 2) wy0) = false
theorem kid_least (l : List Wy) (i j : Nat) (hj : j < l.length) (h0 : 0 < j) (hp : (j - 1) / 2 = i) : aheadB (l.getD j wy0) (l.getD (kid l (2 * i + 1)) wy0) = false := by
  have hr : aheadB (l.getD j wy0) (l.getD j wy0) = false := by rw [not_ahead]; omega
  unfold kid kidB
  rcases (show j = 2 * i + 1 ∨ j = 2 * i + 1 + 1 by omega) with e | e
  · subst e
    split
    · rename_i h
      simp only [Bool.and_eq_true] at h
      exact ahead_asymm h.2
    · exact hr
  · subst e
    cases hb : aheadB (l.getD (2 * i + 1 + 1) wy0) (l.getD (2 * i + 1) wy0)
    · simp only [Bool.and_false, Bool.false_eq_true, if_false]
      exact hb
    · simp only [hj, decide_true, Bool.and_self, if_true]
      exact hr
theorem down_heap : ∀ (n i : Nat) (l : List Wy), l.length - i = n → DownOK l i → HeapOK (down l i) := by
  intro n
  induction n using Nat.strongRecOn with
  | _ n ih =>
    intro i l hn h
    rw [down]
    split
    · rename_i ha
      obtain ⟨h1, h2, h3⟩ := kid_lt l (2 * i + 1) ha.1
      have hL := fun j hj h0 hp => kid_least l i j hj h0 hp
      generalize kid l (2 * i + 1) = k at *
      have hi : i < l.length := by omega
      have hk0 : (k - 1) / 2 = i := by omega
      refine ih (l.length - k) (by omega) k _ (by rw [swapL_length]) ⟨fun j h0 hj hne => ?_, fun j h0 hj hpj _ => ?_⟩
      · rw [swapL_length] at hj
        rw [swapL_get l hi h1, swapL_get l hi h1]
        simp only [hne, if_false]
        by_cases e1 : j = k
        · subst e1
          simp [hk0]
          exact ahead_asymm ha.2
        · simp only [e1, if_false]
          by_cases e2 : j = i
          · subst e2
            have e3 : ¬ (j - 1) / 2 = j := by omega
            simp [e3]
            have := h.kids k (by omega) h1 hk0 h0
            simpa using this
          · simp only [e2, if_false]
            by_cases e3 : (j - 1) / 2 = i
            · simp only [e3, if_true]
              exact hL j hj h0 e3
            · simp only [e3, if_false]
              exact h.out j h0 hj e3
      · rw [swapL_length] at hj
        rw [swapL_get l hi h1, swapL_get l hi h1]
        have e1 : ¬ j = k := by omega
        have e2 : ¬ j = i := by omega
        have e3 : ¬ i = k := by omega
        simp only [hk0, e1, e2, e3, if_false, if_true]
        have := h.out j h0 hj (by omega)
        rwa [hpj] at this
    · rename_i ha
      intro j h0 hj
      by_cases e1 : (j - 1) / 2 = i
      · have hL := kid_least l i j hj h0 e1
        have h1 : 2 * i + 1 < l.length := by omega
        cases hb : aheadB (l.getD (kid l (2 * i + 1)) wy0) (l.getD i wy0)
        · rw [e1]
          exact ahead_trans hL hb
        · exact absurd ⟨h1, hb⟩ ha
      · exact h.out j h0 hj e1
theorem popP_heap {l : List Wy} (h : HeapOK l) : HeapOK (popP l) := by
  unfold popP
  refine down_heap _ 0 _ rfl ⟨fun j h0 hj hne => ?_, fun _ _ _ _ h => absurd h (by omega)⟩
  have hj2 : j < l.length - 1 := by simp at hj; omega
  have e : ∀ k, 0 < k → k < l.length - 1 → ((l.set 0 (l.getD (l.length - 1) wy0)).take (l.length - 1)).getD k wy0 = l.getD k wy0 := by
    intro k hk0 hk
    simp only [List.getD, List.getElem?_take_of_lt hk]
    rw [List.getElem?_set_ne (by omega)]
  rw [e j h0 hj2, e _ (by omega) (by omega)]
  exact h j h0 (by omega)
end Go.Proofs.Ytkkjnembjlgiaaa
