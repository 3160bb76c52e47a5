/-
  A region whose order Go leaves open, proved by an invariant: each operation that may come up keeps it, whatever has come up before. One case an operation, and not one way an order. No program is loaded here.
-/
import Derived.WalkKit
import Derived.Orders
namespace Go.Proofs.YthkongkbefpilaaDoor
section
variable {P : Program} {ops : Array Oper} {Q : Exit → Act → World → Prop} {md : Region.Mode}
theorem count_set (l : List Bool) : ∀ (i : Nat), l.getD i true = false → (l.set i true).count false + 1 = l.count false := by
  induction l with
  | nil => intro i h; simp at h
  | cons x r ih =>
    intro i h
    cases i with
    | zero => simp at h; subst h; simp
    | succ i =>
      have := ih i (by simpa using h)
      simp only [List.set_cons_succ, List.count_cons]
      omega
theorem wpAny_inv (I : Array Bool → Act → World → Prop)
    (hstep : ∀ listed a w i, listed.size = ops.size → I listed a w → i ∈ Region.ready md ops listed → wpOp P ops Q i (I (listed.setIfInBounds i true)) a w)
    (hend : ∀ listed a w, listed.size = ops.size → I listed a w → Region.ready md ops listed = [] → Q .normal a w) :
    ∀ (fuel : Nat) (listed : Array Bool) (a : Act) (w : World), listed.size = ops.size → listed.toList.count false ≤ fuel → I listed a w → wpAny P md ops Q fuel listed a w := by
  intro fuel
  induction fuel with
  | zero =>
    intro listed a w hs hc hI
    have hr : Region.ready md ops listed = [] := by
      apply List.eq_nil_iff_forall_not_mem.2
      intro i hi
      have h1 := (mem_ready.1 hi).1
      have := count_set listed.toList i (by simpa [Array.getD_eq_getD_getElem?, List.getD] using h1)
      omega
    exact ⟨hr, hend listed a w hs hI hr⟩
  | succ fuel ih =>
    intro listed a w hs hc hI
    refine ⟨fun hr => hend listed a w hs hI hr, fun i hi => ?_⟩
    refine wpOp_mono (fun a' w' h => ih _ a' w' (by simpa using hs) ?_ h) (hstep listed a w i hs hI hi)
    have h1 := (mem_ready.1 hi).1
    have := count_set listed.toList i (by simpa [Array.getD_eq_getD_getElem?, List.getD] using h1)
    simp only [Array.toList_setIfInBounds]
    omega
/-- Each operation waits for earlier ones alone (for the kernel). -/
def lowEdges (ops : Array Oper) : Bool := (List.range ops.size).all fun i => match ops[i]? with
  | some o => o.after.all fun e => decide (e.on < i)
  | none => true
theorem lowEdges_spec (h : lowEdges ops = true) : ∀ (i : Nat) (o : Oper), ops[i]? = some o → ∀ e ∈ o.after, e.on < i := by
  intro i o hi e he
  have hlt : i < ops.size := (Array.getElem?_eq_some_iff.1 hi).1
  have := List.all_eq_true.1 h i (List.mem_range.2 hlt)
  simp only [hi] at this
  have := Array.all_eq_true_iff_forall_mem.1 this e he
  simpa using this
/-- Nothing may come up any more: all have come up. -/
theorem ready_nil (hl : lowEdges ops = true) {listed : Array Bool} (hs : listed.size = ops.size) (hr : Region.ready md ops listed = []) :
    ∀ i, i < ops.size → listed.getD i false = true := by
  have hlow := lowEdges_spec hl
  intro i
  induction i using Nat.strongRecOn with
  | _ i ih =>
    intro hi
    cases h : listed.getD i false with
    | true => rfl
    | false =>
      exfalso
      have hm : i ∈ Region.ready md ops listed := by
        refine mem_ready.2 ⟨?_, ops[i], Array.getElem?_eq_getElem hi, fun e he _ => ?_⟩
        · rw [Array.getD_eq_getD_getElem?, Array.getElem?_eq_getElem (by omega)] at h ⊢
          simpa using h
        · have := hlow i ops[i] (Array.getElem?_eq_getElem hi) e he
          exact ih e.on this (by omega)
      rw [hr] at hm
      cases hm
/-- THE REGION. -/
theorem wp_region_inv {id : Nat} {a : Act} {w : World} (hm : P.follows .mixedOrders = true) (I : Array Bool → Act → World → Prop)
    (hstart : I (Array.replicate ops.size false) a w.drew)
    (hstep : ∀ listed a w i, listed.size = ops.size → I listed a w → i ∈ Region.ready .any ops listed → wpOp P ops Q i (I (listed.setIfInBounds i true)) a w)
    (hend : ∀ listed a w, listed.size = ops.size → I listed a w → Region.ready .any ops listed = [] → Q .normal a w) : (Code.region id ops true).wp P Q a w :=
  wp_region_any hm (wpAny_inv I hstep hend _ _ _ _ (by simp) (by simp) hstart)
/-- .. where the invariant speaks of the frame and the world with which the region begins. -/
theorem wp_region_from {id : Nat} {a0 : Act} {w0 : World} (hm : P.follows .mixedOrders = true) (I : Act → World → Array Bool → Act → World → Prop)
    (hstart : I a0 w0 (Array.replicate ops.size false) a0 w0.drew)
    (hstep : ∀ listed a w i, listed.size = ops.size → I a0 w0 listed a w → i ∈ Region.ready .any ops listed → wpOp P ops Q i (I a0 w0 (listed.setIfInBounds i true)) a w)
    (hend : ∀ listed a w, listed.size = ops.size → I a0 w0 listed a w → Region.ready .any ops listed = [] → Q .normal a w) : (Code.region id ops true).wp P Q a0 w0 :=
  wp_region_inv hm (I a0 w0) hstart hstep hend
theorem wpOp_of {i : Nat} {o : Oper} {K : Act → World → Prop} {a : Act} {w : World} (hi : ops[i]? = some o) (hg : o.guard = none) (h : o.wp P a w K Q) : wpOp P ops Q i K a w := by
  unfold wpOp
  simp only [hi, Region.wanted, hg, if_true]
  exact .inl h
theorem wp_value {o : Oper} {K : Act → World → Prop} {a : Act} {w w' : World} {v : Value} (h : (execOp a.eval o).run P w = .ok (.value v) w') (hK : K (a.put o.dst v) w') : o.wp P a w K Q := by
  unfold Oper.wp
  rw [h]
  exact hK
theorem wp_skip {o : Oper} {K : Act → World → Prop} {a : Act} {w w' : World} (h : (execOp a.eval o).run P w = .ok .skip w') (hK : K (a.put o.dst undef) w') : o.wp P a w K Q := by
  unfold Oper.wp
  rw [h]
  exact hK
theorem wp_enter {o : Oper} {K : Act → World → Prop} {a : Act} {w w' : World} {f : FuncId} {args : Array Value} {R : Ending → World → Prop} (h : (execOp a.eval o).run P w = .ok (.enter f args) w')
    (hc : Calls P f args w' R) (hK : ∀ e w'', R e w'' → ∃ v, e = .returned v ∧ K (a.put o.dst v) w'') : o.wp P a w K Q := by
  unfold Oper.wp
  rw [h]
  refine hc.mono fun e w'' he => ?_
  obtain ⟨v, rfl, hk⟩ := hK e w'' he
  exact hk
theorem none_listed {n j : Nat} (h : (Array.replicate n false).getD j false = true) : False := by
  rw [Array.getD_eq_getD_getElem?] at h
  rcases Nat.lt_or_ge j n with hlt | hge
  · rw [Array.getElem?_eq_getElem (by simpa using hlt)] at h; simp at h
  · rw [Array.getElem?_eq_none (by simpa using hge)] at h; simp at h
theorem listed_self {listed : Array Bool} {i : Nat} (h : i < listed.size) : (listed.setIfInBounds i true).getD i false = true := by simp [h]
theorem listed_ne {listed : Array Bool} {i j : Nat} (h : i ≠ j) : (listed.setIfInBounds i true).getD j false = listed.getD j false := by
  simp [Array.getD_eq_getD_getElem?, Array.getElem?_setIfInBounds_ne h]
theorem ready_of {listed : Array Bool} {i : Nat} (hs : listed.size = ops.size) (h : i ∈ Region.ready md ops listed) :
    i < ops.size ∧ listed.getD i false = false ∧ ∃ o, ops[i]? = some o ∧ ∀ e ∈ o.after, Region.binds md e = true → listed.getD e.on false = true := by
  obtain ⟨h1, o, ho, h2⟩ := mem_ready.1 h
  have hi : i < ops.size := (Array.getElem?_eq_some_iff.1 ho).1
  refine ⟨hi, ?_, o, ho, h2⟩
  rw [Array.getD_eq_getD_getElem?, Array.getElem?_eq_getElem (by omega)] at h1 ⊢
  simpa using h1
def got (a : Act) (t : Tmp) : Value := a.tmps.getD t undef
theorem got_put_same (a : Act) (t : Tmp) (v : Value) (h : t < a.tmps.size) : got (a.put (some t) v) t = v := by
  simp [got, Act.put, h]
theorem got_put_ne (a : Act) (t u : Tmp) (v : Value) (h : t ≠ u) : got (a.put (some t) v) u = got a u := by
  simp [got, Act.put, Array.getElem?_setIfInBounds_ne h]
theorem got_put_none (a : Act) (u : Tmp) (v : Value) : got (a.put none v) u = got a u := rfl
/-- The frame 'a' is 'a0' but for the temporaries in 'ds'. -/
structure Sheet (a0 : Act) (ds : List Tmp) (a : Act) : Prop where
  size : a.tmps.size = a0.tmps.size
  defers : a.defers = a0.defers
  rest : ∀ d, d ∉ ds → a.tmps[d]? = a0.tmps[d]?
theorem Sheet.refl (a0 : Act) (ds : List Tmp) : Sheet a0 ds a0 := ⟨rfl, rfl, fun _ _ => rfl⟩
theorem Sheet.put {a0 a : Act} {ds : List Tmp} (h : Sheet a0 ds a) (t : Tmp) (ht : t ∈ ds) (v : Value) : Sheet a0 ds (a.put (some t) v) :=
  ⟨by simpa [Act.put] using h.size, h.defers, fun d hd => by
    have hne : t ≠ d := fun e => hd (e ▸ ht)
    simp only [Act.put]
    rw [Array.getElem?_setIfInBounds_ne hne]
    exact h.rest d hd⟩
theorem Sheet.putNone {a0 a : Act} {ds : List Tmp} (h : Sheet a0 ds a) (v : Value) : Sheet a0 ds (a.put none v) := h
theorem Sheet.got {a0 a : Act} {ds : List Tmp} (h : Sheet a0 ds a) (d : Tmp) (hd : d ∉ ds) : got a d = got a0 d := by
  unfold Go.Proofs.YthkongkbefpilaaDoor.got
  rw [Array.getD_eq_getD_getElem?, Array.getD_eq_getD_getElem?, h.rest d hd]
/-- Such a frame written out: 'a0' with what 'a' has in 'ds'. -/
theorem Sheet.form {a0 a : Act} {ds : List Tmp} (h : Sheet a0 ds a) : a = ds.foldl (fun b d => b.put (some d) (Go.Proofs.YthkongkbefpilaaDoor.got a d)) a0 := by
  have key : ∀ (es : List Tmp) (b : Act), b.tmps.size = a.tmps.size → b.defers = a.defers → (∀ d, d ∉ es → b.tmps[d]? = a.tmps[d]?) → a = es.foldl (fun b d => b.put (some d) (Go.Proofs.YthkongkbefpilaaDoor.got a d)) b := by
    intro es
    induction es with
    | nil =>
      intro b hs hd hr
      cases a; cases b
      simp only [List.foldl_nil, Act.mk.injEq]
      exact ⟨(Array.ext_getElem? fun i => (hr i (by simp)).symm), hd.symm⟩
    | cons e es ih =>
      intro b hs hd hr
      rw [List.foldl_cons]
      refine ih _ (by simpa [Act.put] using hs) hd fun d hdn => ?_
      simp only [Act.put]
      by_cases hde : e = d
      · subst hde
        rcases Nat.lt_or_ge e b.tmps.size with hlt | hge
        · have he : e < a.tmps.size := hs ▸ hlt
          rw [Array.getElem?_setIfInBounds_self_of_lt hlt, Array.getElem?_eq_getElem he]
          simp [Go.Proofs.YthkongkbefpilaaDoor.got, Array.getElem?_eq_getElem he]
        · have he : a.tmps.size ≤ e := hs ▸ hge
          rw [Array.getElem?_eq_none (by simpa using hge), Array.getElem?_eq_none he]
      · rw [Array.getElem?_setIfInBounds_ne hde]
        exact hr d (by simp [hdn]; exact fun h => hde h.symm)
  exact key ds a0 h.size.symm h.defers.symm fun d hd => (h.rest d hd).symm
end
end Go.Proofs.YthkongkbefpilaaDoor
