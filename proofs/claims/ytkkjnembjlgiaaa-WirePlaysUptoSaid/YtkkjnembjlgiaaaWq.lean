/-
  WireOnce's pure law: how often a frame may still come, and when.
-/
import Derived.Test.YtkkjnembjlgiaaaWn
namespace Go.Proofs.Ytkkjnembjlgiaaa
set_option maxRecDepth 100000

def keyB (bs : List UInt8) : Nat := (bs.getD 0 0).toNat + 256 * (bs.getD 1 0).toNat
def numB (i : Nat) : List UInt8 := [UInt8.ofNat i, UInt8.ofNat (i / 256)]
theorem key_num {i : Nat} (h : i < 65536) : keyB (numB i) = i := by
  unfold keyB numB
  simp [List.getD]
  omega
def copies (f : Ft) : Nat := if f.lost = true then 0 else if 0 < f.twin then 2 else 1
def cnt (k : Nat) (l : List Wy) : Nat := l.countP fun e => keyB e.bs == k
structure Good (fs : List Ft) (fr : List Int) (e : Wy) : Prop where
  len : e.bs.length = 2
  key : keyB e.bs < fr.length
  lost : (fs.getD (keyB e.bs) ft0).lost = false
  due : sumZ (fr.getD (keyB e.bs) 0) (fs.getD (keyB e.bs) ft0).delay ≤ e.due
structure Once (fs : List Ft) (i : Nat) (now : Int) (fr : List Int) (cm : List Nat) (s : WS) : Prop where
  hnow : 0 ≤ now ∧ now ≤ 1125899906842624
  hsn : 0 ≤ s.now ∧ s.now ≤ now
  fates : s.fates = fs.drop i
  frl : fr.length = i
  cml : cm.length = i
  frb : ∀ k, k < i → 0 ≤ fr.getD k 0 ∧ fr.getD k 0 ≤ now
  good : ∀ e ∈ s.ways, Good fs fr e
  cnt : ∀ k, k < i → cm.getD k 0 + cnt k s.ways = copies (fs.getD k ft0)
  heap : HeapOK s.ways
  len : s.ways.length ≤ 2 * i
  laid : 0 ≤ s.laid ∧ s.laid ≤ 2 * i
  lost : 0 ≤ s.lost ∧ s.lost ≤ i
theorem getD_snoc_lo {α : Type} (l : List α) (x d : α) {k : Nat} (h : k < l.length) : (l ++ [x]).getD k d = l.getD k d := by simp [List.getD, List.getElem?_append_left h]
theorem getD_snoc_hi {α : Type} (l : List α) (x d : α) : (l ++ [x]).getD l.length d = x := by simp [List.getD]
theorem cnt_perm {k : Nat} {l m : List Wy} (h : l.Perm m) : cnt k l = cnt k m := h.countP_eq _
theorem cnt_cons (k : Nat) (x : Wy) (l : List Wy) : cnt k (x :: l) = cnt k l + if keyB x.bs = k then 1 else 0 := by
  unfold cnt
  rw [List.countP_cons]
  simp
theorem cnt_append (k : Nat) (l m : List Wy) : cnt k (l ++ m) = cnt k l + cnt k m := by unfold cnt; rw [List.countP_append]
theorem cnt_none {k : Nat} {l : List Wy} (h : ∀ e ∈ l, keyB e.bs ≠ k) : cnt k l = 0 := by
  unfold cnt
  rw [List.countP_eq_zero]
  intro e he
  simpa using h e he
/-- One is laid. -/
theorem lay_once {fs : List Ft} {i : Nat} {now : Int} {fr : List Int} {s s' : WS} {due : Int} {m : Nat} (hi : i < 2000) (hl : s.ways.length ≤ 4000) (hg : ∀ e ∈ s.ways, Good fs (fr ++ [now]) e) (hh : HeapOK s.ways) (hfr : fr.length = i)
    (hlost : (fs.getD i ft0).lost = false) (hdue : sumZ now (fs.getD i ft0).delay ≤ due) (hc : cnt i s.ways = m) (h : layR s due (numB i) s') :
    (∀ e ∈ s'.ways, Good fs (fr ++ [now]) e) ∧ HeapOK s'.ways ∧ s'.ways.length = s.ways.length + 1 ∧ cnt i s'.ways = m + 1 ∧ (∀ k, k < i → cnt k s'.ways = cnt k s.ways) ∧ s'.now = s.now ∧ s'.fates = s.fates ∧ s'.laid = s.laid + 1 ∧ s'.lost = s.lost := by
  unfold layR at h
  rw [if_neg (by omega)] at h
  obtain ⟨a, c, rfl⟩ := h
  have hp := pushP_perm s.ways ⟨due, s.laid + 1, a, c, numB i⟩
  have hk : keyB (numB i) = i := key_num (by omega)
  refine ⟨fun e he => ?_, pushP_heap hh _, by rw [pushP_length], ?_, fun k hk' => ?_, rfl, rfl, rfl, rfl⟩
  · rcases List.mem_cons.1 (hp.mem_iff.1 he) with rfl | he
    · have e1 : (fr ++ [now]).getD i 0 = now := by rw [← hfr]; exact getD_snoc_hi _ _ _
      exact ⟨rfl, by rw [hk, List.length_append, hfr]; simp, by rw [hk]; exact hlost, by rw [hk, e1]; exact hdue⟩
    · exact hg e he
  · rw [cnt_perm hp, cnt_cons, hc, if_pos hk]
  · rw [cnt_perm hp, cnt_cons, if_neg (by show keyB (numB i) ≠ k; rw [hk]; omega), Nat.add_zero]
theorem sumZ_range {t k : Int} (h0 : 0 ≤ t) (h1 : t ≤ 1125899906842624) : t ≤ sumZ t k ∧ sumZ t k ≤ 1125899906842624 := by
  unfold sumZ
  omega
/-- A frame is put. -/
theorem put_once {fs : List Ft} {i : Nat} {now : Int} {fr : List Int} {cm : List Nat} {s s' : WS} (h : Once fs i now fr cm s) (hi : i < 2000) (hp : putR s now (numB i) s') :
    Once fs (i + 1) now (fr ++ [now]) (cm ++ [0]) s' ∧ s'.ways.length = s.ways.length + copies (fs.getD i ft0) ∧ s'.lost = s.lost + (if (fs.getD i ft0).lost = true then 1 else 0) := by
  have hhd : s.fates.headD ft0 = fs.getD i ft0 := by
    rw [h.fates]
    simp [List.getD, List.head?_drop, List.headD_eq_head?_getD]
  have htl : s.fates.tail = fs.drop (i + 1) := by rw [h.fates, List.tail_drop]
  have hg : ∀ e ∈ s.ways, Good fs (fr ++ [now]) e := fun e he => by
    have g := h.good e he
    exact ⟨g.len, by rw [List.length_append]; have := g.key; simp; omega, g.lost, by rw [getD_snoc_lo _ _ _ g.key]; exact g.due⟩
  have hc0 : cnt i s.ways = 0 := cnt_none fun e he => by have := (h.good e he).key; rw [h.frl] at this; omega
  have hfrb : ∀ k, k < i + 1 → 0 ≤ (fr ++ [now]).getD k 0 ∧ (fr ++ [now]).getD k 0 ≤ now := fun k hk => by
    by_cases h1 : k < i
    · rw [getD_snoc_lo _ _ _ (by rw [h.frl]; exact h1)]
      exact h.frb k h1
    · obtain rfl : k = fr.length := by rw [h.frl]; omega
      rw [getD_snoc_hi]
      exact ⟨h.hnow.1, Int.le_refl _⟩
  have hcm : ∀ k, k < i → (cm ++ [0]).getD k 0 = cm.getD k 0 := fun k hk => getD_snoc_lo _ _ _ (by rw [h.cml]; exact hk)
  have hcmi : (cm ++ [0]).getD i 0 = 0 := by rw [← h.cml]; exact getD_snoc_hi _ _ _
  have hmv : (sentP s now).now = now := by
    show min (max now s.now) 1125899906842624 = now
    have := h.hsn
    have := h.hnow
    omega
  have hln := h.len
  have hla := h.laid
  have hlo := h.lost
  unfold putR at hp
  rw [hhd] at hp
  obtain ⟨f, hf⟩ : ∃ f, fs.getD i ft0 = f := ⟨_, rfl⟩
  have hlen : (fr ++ [now]).length = i + 1 ∧ (cm ++ [0]).length = i + 1 := by rw [List.length_append, List.length_append, h.frl, h.cml]; exact ⟨rfl, rfl⟩
  rw [hf] at hp
  by_cases hl : f.lost = true
  · rw [if_pos hl] at hp
    subst hp
    have hcp : copies (fs.getD i ft0) = 0 := by rw [hf]; unfold copies; rw [if_pos hl]
    refine ⟨⟨h.hnow, by rw [show ({ sentP s now with lost := s.lost + 1 } : WS).now = now from hmv]; exact ⟨h.hnow.1, Int.le_refl _⟩, htl, hlen.1, hlen.2, hfrb, hg, fun k hk => ?_, h.heap, by show s.ways.length ≤ _; omega, by show 0 ≤ s.laid ∧ s.laid ≤ _; omega, by show 0 ≤ s.lost + 1 ∧ s.lost + 1 ≤ _; omega⟩, by rw [hcp]; rfl, by rw [hf, if_pos hl]⟩
    by_cases h1 : k < i
    · rw [hcm k h1]
      exact h.cnt k h1
    · obtain rfl : k = i := by omega
      rw [hcmi, hcp]
      show 0 + cnt k s.ways = 0
      rw [hc0]
  · rw [if_neg hl] at hp
    have hl' : (fs.getD i ft0).lost = false := by rw [hf]; simpa using hl
    obtain ⟨s3, h3, h4⟩ := hp
    rw [hmv] at h3 h4
    have hr := sumZ_range (k := f.delay) h.hnow.1 h.hnow.2
    obtain ⟨a1, a2, a3, a4, a5, a6, a7, a8, a9⟩ := lay_once (fs := fs) (fr := fr) (now := now) (s := sentP s now) hi (by show s.ways.length ≤ _; omega) hg h.heap h.frl hl' (by rw [hf]; exact Int.le_refl _) hc0 h3
    have a3 : s3.ways.length = s.ways.length + 1 := a3
    have a5 : ∀ k, k < i → cnt k s3.ways = cnt k s.ways := a5
    have a8 : s3.laid = s.laid + 1 := a8
    have a9 : s3.lost = s.lost := a9
    by_cases ht : 0 < f.twin
    · rw [if_pos ht] at h4
      have hcp : copies (fs.getD i ft0) = 2 := by rw [hf]; unfold copies; rw [if_neg hl, if_pos ht]
      have hr2 := sumZ_range (k := f.twin) (Int.le_trans h.hnow.1 hr.1) hr.2
      obtain ⟨b1, b2, b3, b4, b5, b6, b7, b8, b9⟩ := lay_once (fs := fs) (fr := fr) (now := now) (s := s3) hi (by omega) a1 a2 h.frl hl' (by rw [hf]; exact hr2.1) a4 h4
      refine ⟨⟨h.hnow, by rw [b6, a6, hmv]; exact ⟨h.hnow.1, Int.le_refl _⟩, by rw [b7, a7]; exact htl, hlen.1, hlen.2, hfrb, b1, fun k hk => ?_, b2, by omega, by omega, by omega⟩, by omega, by rw [hl', b9, a9]; simp⟩
      by_cases h1 : k < i
      · rw [hcm k h1, b5 k h1, a5 k h1]
        exact h.cnt k h1
      · obtain rfl : k = i := by omega
        rw [hcmi, hcp, b4]
    · rw [if_neg ht] at h4
      subst h4
      have hcp : copies (fs.getD i ft0) = 1 := by rw [hf]; unfold copies; rw [if_neg hl, if_neg ht]
      refine ⟨⟨h.hnow, by rw [a6, hmv]; exact ⟨h.hnow.1, Int.le_refl _⟩, by rw [a7]; exact htl, hlen.1, hlen.2, hfrb, a1, fun k hk => ?_, a2, by omega, by omega, by omega⟩, by omega, by rw [hl', a9]; simp⟩
      by_cases h1 : k < i
      · rw [hcm k h1, a5 k h1]
        exact h.cnt k h1
      · obtain rfl : k = i := by omega
        rw [hcmi, hcp, a4]
/-! ## What comes -/
theorem dueP_spec (now : Int) : ∀ (n : Nat) (l : List Wy), l.length = n → l.Perm ((dueP l now).2 ++ (dueP l now).1) ∧ (HeapOK l → HeapOK (dueP l now).1) ∧ (∀ e ∈ (dueP l now).2, e.due ≤ now) ∧ (0 < (dueP l now).1.length → now < ((dueP l now).1.getD 0 wy0).due) := by
  intro n
  induction n with
  | zero =>
    intro l hl
    have : l = [] := List.eq_nil_of_length_eq_zero hl
    subst this
    rw [dueP_stop (by simp)]
    exact ⟨List.Perm.refl _, id, fun e he => (by cases he), fun h => absurd h (by simp)⟩
  | succ n ih =>
    intro l hl
    by_cases h : 0 < l.length ∧ (l.getD 0 wy0).due ≤ now
    · rw [dueP_step h]
      obtain ⟨h1, h2, h3, h4⟩ := ih (popP l) (by rw [popP_length l h.1]; omega)
      refine ⟨(popP_perm l h.1).trans (h1.cons _), fun hh => h2 (popP_heap hh), fun e he => ?_, h4⟩
      rcases List.mem_cons.1 he with rfl | he
      · exact h.2
      · exact h3 e he
    · rw [dueP_stop h]
      exact ⟨List.Perm.refl _, id, fun e he => (by cases he), fun h0 => Int.not_le.1 fun h1 => h ⟨h0, h1⟩⟩
/-- What one that comes is asked. -/
theorem come_once {fs : List Ft} {i : Nat} {now now' : Int} {fr : List Int} {cm cm' : List Nat} {s : WS} (h : Once fs i now fr cm s) {n : Nat} (hn : n < (dueP s.ways now').2.length)
    (hcm : ∀ k, k < i → cm'.getD k 0 = cm.getD k 0 + cnt k ((dueP s.ways now').2.take n)) {e : Wy} (he : (dueP s.ways now').2.getD n wy0 = e) :
    Good fs fr e ∧ cm'.getD (keyB e.bs) 0 + 1 ≤ copies (fs.getD (keyB e.bs) ft0) ∧ min (fs.getD (keyB e.bs) ft0).delay (1125899906842624 - fr.getD (keyB e.bs) 0) ≤ now' - fr.getD (keyB e.bs) 0 ∧
      (∀ k, k < i → (cm'.set (keyB e.bs) (cm'.getD (keyB e.bs) 0 + 1)).length = cm'.length ∧ (cm'.length = i → (cm'.set (keyB e.bs) (cm'.getD (keyB e.bs) 0 + 1)).getD k 0 = cm.getD k 0 + cnt k ((dueP s.ways now').2.take (n + 1)))) := by
  obtain ⟨h1, _, h3, _⟩ := dueP_spec now' _ s.ways rfl
  have hm : e ∈ (dueP s.ways now').2 := by rw [← he]; simp [List.getD, hn]
  have hg := h.good e (h1.mem_iff.2 (List.mem_append_left _ hm))
  have hki : keyB e.bs < i := by have := hg.key; rwa [h.frl] at this
  have htk : (dueP s.ways now').2.take (n + 1) = (dueP s.ways now').2.take n ++ [e] := by
    rw [List.take_add_one, ← he]
    simp [List.getD, hn]
  have hcnt : ∀ k, cnt k ((dueP s.ways now').2.take (n + 1)) = cnt k ((dueP s.ways now').2.take n) + if keyB e.bs = k then 1 else 0 := fun k => by rw [htk, cnt_append, cnt_cons]; simp [cnt]
  have hle : cnt (keyB e.bs) ((dueP s.ways now').2.take (n + 1)) ≤ cnt (keyB e.bs) s.ways := by
    rw [cnt_perm h1, cnt_append]
    have := List.take_append_drop (n + 1) (dueP s.ways now').2
    have h5 := congrArg (cnt (keyB e.bs)) this
    rw [cnt_append] at h5
    omega
  have h6 := h.cnt _ hki
  have h7 := hcm _ hki
  have h8 := hcnt (keyB e.bs)
  rw [if_pos rfl] at h8
  refine ⟨hg, by omega, ?_, fun k hk => ⟨List.length_set, fun hl => ?_⟩⟩
  · have hd := hg.due
    have := h3 e hm
    have := h.frb _ hki
    unfold sumZ at hd
    omega
  · rw [hcnt k]
    by_cases hke : keyB e.bs = k
    · rw [if_pos hke, ← hke]
      simp only [List.getD, List.getElem?_set_self (show keyB e.bs < cm'.length by omega)]
      have := hcm k hk
      rw [← hke] at this
      simp only [List.getD] at this ⊢
      simp
      omega
    · rw [if_neg hke]
      have := hcm k hk
      simp only [List.getD, List.getElem?_set_ne hke] at this ⊢
      omega
/-- Behind all of them. -/
theorem due_once {fs : List Ft} {i : Nat} {now now' : Int} {fr : List Int} {cm cm' : List Nat} {s : WS} (h : Once fs i now fr cm s) (hn : now ≤ now' ∧ now' ≤ 1125899906842624)
    (hcl : cm'.length = i) (hcm : ∀ k, k < i → cm'.getD k 0 = cm.getD k 0 + cnt k ((dueP s.ways now').2)) :
    Once fs i now' fr cm' (dueS s now') ∧ dueO s now' = (dueP s.ways now').2 ∧ (dueS s now').ways = (dueP s.ways now').1 ∧ (0 < (dueS s now').ways.length → now' < ((dueS s now').ways.getD 0 wy0).due) ∧ s.ways.length = (dueP s.ways now').2.length + (dueS s now').ways.length ∧ (dueS s now').lost = s.lost := by
  obtain ⟨h1, h2, h3, h4⟩ := dueP_spec now' _ s.ways rfl
  have hmv : (moveP s now').now = now' := by
    show min (max now' s.now) 1125899906842624 = now'
    have := h.hsn
    have := h.hnow
    omega
  have e1 : (dueS s now').ways = (dueP s.ways now').1 := by unfold dueS; rw [hmv]
  have e2 : dueO s now' = (dueP s.ways now').2 := by unfold dueO; rw [hmv]
  have hl := h1.length_eq
  rw [List.length_append] at hl
  have hnow := h.hnow
  refine ⟨⟨by omega, by rw [show (dueS s now').now = now' from hmv]; omega, h.fates, h.frl, hcl, fun k hk => ?_, fun e he => ?_, fun k hk => ?_, by rw [e1]; exact h2 h.heap, by rw [e1]; have := h.len; omega, h.laid, h.lost⟩, e2, e1, by rw [e1]; exact h4, by rw [e1]; omega, rfl⟩
  · have := h.frb k hk
    omega
  · rw [e1] at he
    exact h.good e (h1.mem_iff.2 (List.mem_append_right _ he))
  · rw [e1, hcm k hk]
    have := h.cnt k hk
    rw [cnt_perm h1, cnt_append] at this
    omega
end Go.Proofs.Ytkkjnembjlgiaaa
