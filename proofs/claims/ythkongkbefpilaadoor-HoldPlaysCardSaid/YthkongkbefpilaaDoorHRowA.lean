/-
  What the rows' proofs of this seat share: a call that leaves all old memory as it was; an array of bytes that comes in.
-/
import Derived.Test.YthkongkbefpilaaDoorRows
import Derived.Test.YthkongkbefpilaaDoorHd
import Derived.Test.YthkongkbefpilaaDoorCards
import Derived.Test.YthkongkbefpilaaDoorTie
import Derived.Deep.DeepHandedRow
import Derived.Stop.LaidTwo
import Derived.SevenTiedAt
import Derived.ProofKit
import Derived.OpenShut
import Derived.Carry
namespace Go.Proofs.YthkongkbefpilaaDoor
open Go.ChangeShapes Go.WideShapes Go.ChangeAt Go.RowKit Sha

theorem Tryd.own : ownKnob Tryd.prog.godebug = none := by kernel_rfl
theorem Tryd.laidOut : laidOutB Tryd.prog = true := by kernel_rfl
theorem kept_of_only {W W' : World} (h : Only Nil W W') (may : MemPlace → Prop) : W.keptBut W' may := (h.below (Nat.le_refl _) (fun _ h => h.elim)).frame may
section
variable {H : Type} {enc : TypeId × Value → H} {P : Program} {W W' : World}
/-- Arguments that nobody wrote read as they read. -/
theorem trodAll_stays (hl : laidOutB P = true) (hb : Below W.heap.size W W') : ∀ {ts : List TypeId} {vs : List Value} {ds : List (DataW H)} {ps : List MemPlace}, (ts.all fun t => P.readableRec t && decide (t < P.types.size)) = true →
    DataW.TrodAll enc P W 0 (fun _ => true) true ts vs ds ps → (∀ x ∈ ps, x.block < W.heap.size) → DataW.TrodAll enc P W' 0 (fun b => decide (b < W.heap.size)) true ts vs ds ps
  | [], vs, ds, ps, _, h, _ => by
    obtain ⟨rfl, rfl, rfl⟩ := trodAll_nil h
    exact trodAll_mk0
  | t :: ts, vs, ds, ps, ht, h, hlt => by
    obtain ⟨v, vs1, d, ds1, a, b, rfl, rfl, rfl, h1, h2⟩ := trodAll_cons h
    simp only [List.all_cons, Bool.and_eq_true, decide_eq_true_eq] at ht
    exact trodAll_cons_mk (h1 |> fun h => Below.trod hl ht.1.1 ht.1.2 h hb fun x hx => hlt x (List.mem_append_left _ hx)) (trodAll_stays hl hb ht.2 h2 fun x hx => hlt x (List.mem_append_right _ hx))
/-- An array of n bytes, by value. -/
theorem open_bytes {r : Reach} {b0 base : Nat} {sp : Nat → Bool} {hd : Bool} {t e : TypeId} {n : Nat} {v : Value} {d : DataW H} {ps : List MemPlace} (ht : P.underlying t = some (.array n e)) (he : P.underlying e = some (.int .u8)) (hc : P.cellsOf e = 1) (hn : P.cellsOf t = n)
    (hval : Value.okWide P W r b0 t v) (h : DataW.Trod enc P W base sp hd t v d ps) : ∃ bs : List UInt8, v = .agg (BC bs).toArray ∧ bs.length = n := by
  simp only [Value.okWide, ht] at hval
  obtain ⟨cs, rfl, hs, _⟩ := hval
  obtain ⟨fuel, hf⟩ := h
  obtain ⟨xs, m, rfl, _, hl, hxl, hall⟩ := DataW.trod_array ht hf
  have hcl : cs.toList.length = n := by simpa [hn] using hs
  have key : ∀ i (hi : i < cs.toList.length), ∃ c : UInt8, cs.toList[i] = .int .u8 (by8 c) := by
    intro i hi
    have h1 := hall i (by omega)
    rw [hc, Nat.mul_one, List.getElem?_eq_getElem (show i < xs.length by omega)] at h1
    obtain ⟨a, ea, _, wa⟩ := DataW.trod_int he h1
    have e2 : cs.toList[i] = .int .u8 a := by
      have : ((cs.toList.drop i).take 1)[0]? = some (Value.int .u8 a) := by
        show ((Value.cells (.agg cs)).toList.drop i |>.take 1)[0]? = _
        rw [ea]
        rfl
      rw [List.getElem?_take_of_lt (by decide), List.getElem?_drop, Nat.add_zero, List.getElem?_eq_getElem hi] at this
      exact Option.some.inj this
    simp only [Lit.wf, Bool.and_eq_true, decide_eq_true_eq] at wa
    have hmn : IntKind.u8.min = 0 := by decide
    have hmx : IntKind.u8.max = 255 := by decide
    refine ⟨UInt8.ofNat a.toNat, ?_⟩
    rw [e2, by8_ofNat]
    congr 1
    omega
  refine ⟨cs.toList.map fun v => match v with | .int _ x => UInt8.ofNat x.toNat | _ => 0, ?_, by rw [List.length_map]; exact hcl⟩
  congr 1
  apply Array.ext'
  apply List.ext_getElem (by simp [BC_length])
  intro i h1 h2
  obtain ⟨c, hcc⟩ := key i h1
  simp only [BC, List.getElem_map, hcc]
  congr 1
  unfold by8
  congr 1
  have := c.toNat_lt
  rw [Int.toNat_natCast]
  simp
end
/-! ## The two sentinels -/
theorem gFull : Tryd.prog.globalNamed "slipway/hold.errFull" = some 0 := by kernel_rfl
theorem gShut : Tryd.prog.globalNamed "slipway/hold.errSealed" = some 1 := by kernel_rfl
theorem gFullType : (Tryd.prog.globals[0]?).map (·.type) = some 66 := by kernel_rfl
theorem gShutType : (Tryd.prog.globals[1]?).map (·.type) = some 66 := by kernel_rfl
theorem cellsES : Tryd.prog.cellsOf 127 = 1 := by kernel_rfl
theorem cellsStr : Tryd.prog.cellsOf 9 = 1 := by kernel_rfl
theorem starES : "*" ++ "errors.errorString" = "*errors.errorString" := by decide
theorem rowES (u : TypeId) (h : Tryd.prog.typeName? 3 u = some "*errors.errorString") : u = 103 :=
  typeName_ptr_named (nm := "errors.errorString") (by rw [starES]; kernel_rfl) (by kernel_rfl) (by decide) u (by rw [starES]; exact h)
theorem errs_of_laid {W : World} (hL : laidMetH Tryd.prog [("slipway/hold.errFull", Rows.laid_slipway_hold_errFull), ("slipway/hold.errSealed", Rows.laid_slipway_hold_errSealed)] W) : ∃ a0 a1, Errs W.heap.size a0 a1 W := by
  obtain ⟨a0, a1, s0, s1, c0, c1, t0, t1, hv0, hv1, hc0, hs0, hz0, hc1, hs1, hz1, hne, hb0, hb1⟩ := laid_sentinels2 hL gFull gFullType gShut gShutType Tryd.underlying66 rowES Tryd.underlying103 Tryd.underlying127 rfl rfl Tryd.underlying9 cellsES cellsStr
  have hg0 : W.cell? ⟨0, 0, none⟩ = some (.iface 103 (.pointer (some a0))) := by simpa using World.var?_cell gFull hv0 0
  have hg1 : W.cell? ⟨1, 0, none⟩ = some (.iface 103 (.pointer (some a1))) := by simpa using World.var?_cell gShut hv1 0
  exact ⟨a0, a1, hg0, hg1, hne, ⟨c0, t0, hb0⟩, ⟨c1, t1, hb1⟩, World.block_lt_of_cell? _ _ hg1, (Array.getElem?_eq_some_iff.1 hb0).1, (Array.getElem?_eq_some_iff.1 hb1).1⟩
abbrev fullS : ByteArray := { data := #[104, 111, 108, 100, 58, 32, 110, 111, 32, 114, 111, 111, 109] }
abbrev shutS : ByteArray := { data := #[104, 111, 108, 100, 58, 32, 115, 101, 97, 108, 101, 100] }
noncomputable def low : Nat := (World.holding Tryd.prog default ⟨#[], #[], []⟩).heap.size
noncomputable def laidWorld (os : Os) : World :=
  let w0 := World.holding Tryd.prog os ⟨#[.cells #[.string fullS] 127, .cells #[.string shutS] 127], #[], []⟩
  { w0 with heap := (w0.heap.modify 0 fun
      | .cells _ t frozen => .cells #[.iface 103 (.pointer (some ⟨low, 0, none⟩))] t frozen
      | o => o).modify 1 fun
      | .cells _ t frozen => .cells #[.iface 103 (.pointer (some ⟨low + 1, 0, none⟩))] t frozen
      | o => o }
theorem laid_met (os : Os) (args : Array Value) : laidMet Tryd.prog [("slipway/hold.errFull", Rows.laid_slipway_hold_errFull), ("slipway/hold.errSealed", Rows.laid_slipway_hold_errSealed)] ((laidWorld os).forCall (fun _ _ => 0) ⟨#[], args, []⟩).memory :=
  laidMet_of_run (ps := [.cell 0 0, .cell low 0, .cell 1 0, .cell (low + 1) 0]) 8 (by kernel_rfl) (by kernel_rfl) (by kernel_rfl)
end Go.Proofs.YthkongkbefpilaaDoor
