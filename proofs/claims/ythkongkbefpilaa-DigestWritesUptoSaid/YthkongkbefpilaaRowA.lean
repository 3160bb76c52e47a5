/-
  What the rows' proofs of this seat share: a call that leaves all old memory as it was; an array of bytes that comes in.
-/
import Derived.Test.YthkongkbefpilaaRows
import Derived.Test.YthkongkbefpilaaDig17
import Derived.ProofKit
import Derived.OpenShut
import Derived.Carry
namespace Go.Proofs.Ythkongkbefpilaa
open Go.ChangeShapes Go.WideShapes Go.ChangeAt Go.RowKit Sha

theorem Try.own : ownKnob Try.prog.godebug = none := by kernel_rfl
theorem Try.laidOut : laidOutB Try.prog = true := by kernel_rfl
theorem kept_of_only {W W' : World} (h : Only Nil W W') (may : MemPlace → Prop) : W.keptBut W' may := (h.below (Nat.le_refl _) (fun _ h => h.elim)).frame may
section
variable {H : Type} {enc : TypeId × Value → H} {P : Program} {W W' : World}
/-- Arguments that nobody wrote read as they read. -/
theorem trodAll_stays (hl : laidOutB P = true) (hb : Below W.heap.size W W') : ∀ {ts : List TypeId} {vs : List Value} {ds : List (DataW H)} {ps : List MemPlace}, (ts.all fun t => P.readableRec t && decide (t < P.types.size)) = true →
    DataW.TrodAll enc P W 0 (fun _ => true) true ts vs ds ps → (∀ x ∈ ps, x.block < W.heap.size) → DataW.TrodAll enc P W' 0 (fun b => decide (b < W.heap.size)) true ts vs ds ps
  | [], vs, ds, ps, _, h, _ => by
    obtain ⟨rfl, rfl, rfl⟩ := trodAll_nil h
    exact trodAll_mk0
  | t :: ts, vs, ds, ps, ht, h, hlt => by
    obtain ⟨v, vs1, d, ds1, a, b, rfl, rfl, rfl, h1, h2⟩ := trodAll_cons h
    simp only [List.all_cons, Bool.and_eq_true, decide_eq_true_eq] at ht
    exact trodAll_cons_mk (h1 |> fun h => Below.trod hl ht.1.1 ht.1.2 h hb fun x hx => hlt x (List.mem_append_left _ hx)) (trodAll_stays hl hb ht.2 h2 fun x hx => hlt x (List.mem_append_right _ hx))
/-- An array of n bytes, by value. -/
theorem open_bytes {r : Reach} {b0 base : Nat} {sp : Nat → Bool} {hd : Bool} {t e : TypeId} {n : Nat} {v : Value} {d : DataW H} {ps : List MemPlace} (ht : P.underlying t = some (.array n e)) (he : P.underlying e = some (.int .u8)) (hc : P.cellsOf e = 1) (hn : P.cellsOf t = n)
    (hval : Value.okWide P W r b0 t v) (h : DataW.Trod enc P W base sp hd t v d ps) : ∃ bs : List UInt8, v = .agg (BC bs).toArray ∧ bs.length = n := by
  simp only [Value.okWide, ht] at hval
  obtain ⟨cs, rfl, hs, _⟩ := hval
  obtain ⟨fuel, hf⟩ := h
  obtain ⟨xs, m, rfl, _, hl, hxl, hall⟩ := DataW.trod_array ht hf
  have hcl : cs.toList.length = n := by simpa [hn] using hs
  have key : ∀ i (hi : i < cs.toList.length), ∃ c : UInt8, cs.toList[i] = .int .u8 (by8 c) := by
    intro i hi
    have h1 := hall i (by omega)
    rw [hc, Nat.mul_one, List.getElem?_eq_getElem (show i < xs.length by omega)] at h1
    obtain ⟨a, ea, _, wa⟩ := DataW.trod_int he h1
    have e2 : cs.toList[i] = .int .u8 a := by
      have : ((cs.toList.drop i).take 1)[0]? = some (Value.int .u8 a) := by
        show ((Value.cells (.agg cs)).toList.drop i |>.take 1)[0]? = _
        rw [ea]
        rfl
      rw [List.getElem?_take_of_lt (by decide), List.getElem?_drop, Nat.add_zero, List.getElem?_eq_getElem hi] at this
      exact Option.some.inj this
    simp only [Lit.wf, Bool.and_eq_true, decide_eq_true_eq] at wa
    have hmn : IntKind.u8.min = 0 := by decide
    have hmx : IntKind.u8.max = 255 := by decide
    refine ⟨UInt8.ofNat a.toNat, ?_⟩
    rw [e2, by8_ofNat]
    congr 1
    omega
  refine ⟨cs.toList.map fun v => match v with | .int _ x => UInt8.ofNat x.toNat | _ => 0, ?_, by rw [List.length_map]; exact hcl⟩
  congr 1
  apply Array.ext'
  apply List.ext_getElem (by simp [BC_length])
  intro i h1 h2
  obtain ⟨c, hcc⟩ := key i h1
  simp only [BC, List.getElem_map, hcc]
  congr 1
  unfold by8
  congr 1
  have := c.toNat_lt
  rw [Int.toNat_natCast]
  simp
end
end Go.Proofs.Ythkongkbefpilaa
