/-
  The pure law of the wire: a heap that is popped answers as a list that is looked through.
-/
import Derived.Test.YtkkjnembjlgiaaaVf
namespace Go.Proofs.Ytkkjnembjlgiaaa
set_option maxRecDepth 100000

def key (e : Wy) : Int × Int × List UInt8 := (e.due, e.num, e.bs)
/-- The heap and the list hold the same frames. -/
structure Mt (l m : List Wy) : Prop where
  heap : HeapOK l
  perm : (m.map key).Perm (l.map key)
  sorted : m.Pairwise fun x y => x.num < y.num
section
variable {l m : List Wy} {x y : Wy} {k : Nat} {now : Int}
theorem Mt.len (h : Mt l m) : m.length = l.length := by
  have := h.perm.length_eq
  simpa using this
theorem Mt.least (h : Mt l m) (hk : IsFst m m.length k) : 0 < l.length ∧ key (m.getD k wy0) = key (l.getD 0 wy0) := by
  have h0 : 0 < l.length := by have := hk.lt; have := h.len; omega
  refine ⟨h0, ?_⟩
  have hl0 : l.getD 0 wy0 ∈ l := getD_mem h0
  have hmk : m.getD k wy0 ∈ m := getD_mem hk.lt
  obtain ⟨a, ha, hak⟩ := List.mem_map.1 (h.perm.mem_iff.2 (List.mem_map_of_mem hl0))
  obtain ⟨c, hc, hck⟩ := List.mem_map.1 (h.perm.mem_iff.1 (List.mem_map_of_mem hmk))
  obtain ⟨j, hj, rfl⟩ := List.getElem_of_mem ha
  obtain ⟨i, hi, rfl⟩ := List.getElem_of_mem hc
  have hmin := heap_min h.heap i hi
  rw [not_ahead] at hmin
  have e1 : l.getD i wy0 = l[i] := by simp [List.getD, hi]
  have e2 : m.getD j wy0 = m[j] := by simp [List.getD, hj]
  rw [e1] at hmin
  simp only [key, Prod.mk.injEq] at hak hck
  have hle := hk.least j hj
  rw [e2] at hle
  have hkl := hk.lt
  have ek : m.getD k wy0 = m[k] := by simp [List.getD, hkl]
  have hjk : j = k := by
    rcases Nat.lt_trichotomy j k with h1 | h1 | h1
    · have := hk.first j h1
      rw [e2] at this
      omega
    · exact h1
    · have := List.pairwise_iff_getElem.1 h.sorted k j hkl hj h1
      rw [← ek] at this
      omega
  subst hjk
  rw [e2]
  simp only [key, Prod.mk.injEq]
  exact hak
theorem Mt.pop (h : Mt l m) (hk : IsFst m m.length k) : Mt (popP l) (m.eraseIdx k) := by
  obtain ⟨h0, he⟩ := h.least hk
  refine ⟨popP_heap h.heap, ?_, h.sorted.sublist (List.eraseIdx_sublist m k)⟩
  have p1 := (popP_perm l h0).map key
  have hkl := hk.lt
  have p2 : ((m[k] :: m.eraseIdx k).map key).Perm (m.map key) := by
    refine List.Perm.map key ?_
    have e : m = m.take k ++ m[k] :: m.drop (k + 1) := by rw [← List.drop_eq_getElem_cons hkl, List.take_append_drop]
    rw [List.eraseIdx_eq_take_drop_succ]
    refine List.Perm.trans List.perm_middle.symm ?_
    rw [← e]
  have ek : m.getD k wy0 = m[k] := by simp [List.getD, hkl]
  rw [ek] at he
  have p3 := (p2.trans h.perm).trans p1
  rw [List.map_cons, List.map_cons, he] at p3
  exact p3.cons_inv
theorem Mt.push (h : Mt l m) {z : Wy} (hn : ∀ e ∈ m, e.num < y.num) (he : key y = key z) : Mt (pushP l z) (m ++ [y]) := by
  refine ⟨pushP_heap h.heap z, ?_, ?_⟩
  · rw [List.map_append]
    refine (List.perm_append_comm).trans ?_
    have := (pushP_perm l z).map key
    refine List.Perm.trans ?_ this.symm
    show (key y :: m.map key).Perm (key z :: l.map key)
    rw [he]
    exact h.perm.cons _
  · rw [List.pairwise_append]
    exact ⟨h.sorted, List.pairwise_singleton _ _, fun a ha b hb => by rw [List.mem_singleton.1 hb]; exact hn a ha⟩
theorem Mt.due {m' os : List Wy} (hq : DueQ now m m' os) : ∀ l, Mt l m → Mt (dueP l now).1 m' ∧ (dueP l now).2.map Wy.bs = os.map Wy.bs := by
  induction hq with
  | @stop m hs =>
    intro l h
    have : dueP l now = (l, []) := dueP_stop fun ⟨h0, hd⟩ => by
      rcases hs with hs | ⟨k, hk, hs⟩
      · have := h.len
        omega
      · obtain ⟨_, he⟩ := h.least hk
        simp only [key, Prod.mk.injEq] at he
        omega
    rw [this]
    exact ⟨h, rfl⟩
  | @step m m' os k hk hd r ih =>
    intro l h
    obtain ⟨h0, he⟩ := h.least hk
    have he' := he
    simp only [key, Prod.mk.injEq] at he'
    rw [dueP_step ⟨h0, by omega⟩]
    obtain ⟨h1, h2⟩ := ih _ (h.pop hk)
    refine ⟨h1, ?_⟩
    rw [List.map_cons, List.map_cons, h2, he'.2.2]
end
/-- The program's wire and the document's. -/
structure Rel (s r : WS) : Prop where
  now : r.now = s.now
  laid : r.laid = s.laid
  lost : r.lost = s.lost
  fates : r.fates = s.fates
  mt : Mt s.ways r.ways
  old : ∀ e ∈ r.ways, e.num ≤ r.laid
section
variable {s r s' r' : WS} {n at1 : Int} {bs : List UInt8}
theorem Rel.init : Rel ws0 ws0 := ⟨rfl, rfl, rfl, rfl, ⟨fun i _ hi => absurd hi (Nat.not_lt_zero i), List.Perm.refl _, List.Pairwise.nil⟩, fun e h => by cases h⟩
theorem Rel.move (h : Rel s r) (n : Int) : Rel (moveP s n) (moveP r n) := ⟨by show min (max n r.now) _ = min (max n s.now) _; rw [h.now], h.laid, h.lost, h.fates, h.mt, h.old⟩
theorem Rel.fated (h : Rel s r) (l : List Ft) : Rel { s with fates := s.fates ++ l } { r with fates := r.fates ++ l } := ⟨h.now, h.laid, h.lost, by show r.fates ++ l = s.fates ++ l; rw [h.fates], h.mt, h.old⟩
theorem Rel.sent (h : Rel s r) (n : Int) : Rel (sentP s n) (sentP r n) := by
  have := h.move n
  exact ⟨this.now, h.laid, h.lost, by show r.fates.tail = s.fates.tail; rw [h.fates], h.mt, h.old⟩
theorem Rel.lay (h : Rel s r) (h1 : layR s at1 bs s') (h2 : rlayR r at1 bs r') : Rel s' r' := by
  unfold layR at h1
  unfold rlayR at h2
  rw [h.mt.len] at h2
  split at h1
  · rename_i hf
    rw [if_pos hf] at h2
    subst h1 h2
    exact ⟨h.now, h.laid, by show r.lost + 1 = s.lost + 1; rw [h.lost], h.fates, h.mt, h.old⟩
  · rename_i hf
    rw [if_neg hf] at h2
    obtain ⟨a, c, rfl⟩ := h1
    obtain ⟨a', c', rfl⟩ := h2
    refine ⟨h.now, by show r.laid + 1 = s.laid + 1; rw [h.laid], h.lost, h.fates, h.mt.push (fun e he => ?_) ?_, fun e he => ?_⟩
    · have := h.old e he
      show e.num < r.laid + 1
      omega
    · simp only [key, h.laid]
    · show e.num ≤ r.laid + 1
      rcases List.mem_append.1 he with he | he
      · have := h.old e he
        omega
      · rw [List.mem_singleton.1 he]
        exact Int.le_refl _
theorem Rel.put (h : Rel s r) (h1 : putR s n bs s') (h2 : rputR r n bs r') : Rel s' r' := by
  unfold putR at h1
  unfold rputR at h2
  have hs := h.sent n
  have hn : (sentP r n).now = (sentP s n).now := hs.now
  rw [h.fates, hn] at h2
  split at h1
  · rename_i hf
    rw [if_pos hf] at h2
    subst h1 h2
    exact ⟨hs.now, hs.laid, by show r.lost + 1 = s.lost + 1; rw [h.lost], hs.fates, hs.mt, hs.old⟩
  · rename_i hf
    rw [if_neg hf] at h2
    obtain ⟨s3, h3, h4⟩ := h1
    obtain ⟨r3, g3, g4⟩ := h2
    have hr3 := hs.lay h3 g3
    split at h4
    · rename_i ht
      rw [if_pos ht] at g4
      exact hr3.lay h4 g4
    · rename_i ht
      rw [if_neg ht] at g4
      subst h4 g4
      exact hr3
theorem Rel.due (h : Rel s r) (n : Int) {m os : List Wy} (hq : DueQ (moveP r n).now r.ways m os) : Rel (dueS s n) { moveP r n with ways := m } ∧ (dueO s n).map Wy.bs = os.map Wy.bs := by
  have hm := h.move n
  rw [hm.now] at hq
  obtain ⟨h1, h2⟩ := Mt.due hq s.ways h.mt
  have hsub : ∀ {m m' os : List Wy} {now : Int}, DueQ now m m' os → ∀ e ∈ m', e ∈ m := by
    intro m m' os now hq
    induction hq with
    | stop _ => exact fun _ h => h
    | step _ _ _ ih => exact fun e he => List.mem_of_mem_eraseIdx (ih e he)
  exact ⟨⟨hm.now, hm.laid, hm.lost, hm.fates, h1, fun e he => h.old e (hsub hq e he)⟩, h2⟩
theorem Rel.next0 (h : Rel s r) (h0 : r.ways.length = 0) : nextP s = (0, false) := by
  unfold nextP
  rw [if_pos (by have := h.mt.len; omega)]
theorem Rel.next1 (h : Rel s r) {k : Nat} (hk : IsFst r.ways r.ways.length k) : nextP s = ((r.ways.getD k wy0).due, true) := by
  obtain ⟨h0, he⟩ := h.mt.least hk
  simp only [key, Prod.mk.injEq] at he
  unfold nextP
  rw [if_neg (by omega), he.1]
end
end Go.Proofs.Ytkkjnembjlgiaaa
