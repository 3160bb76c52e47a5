/-
  HoldNumbers: the given row, and its card.
-/
import Derived.Test.YthkongkbefpilaaDoorHRowA
namespace Go.Proofs.YthkongkbefpilaaDoor
open Go.ChangeShapes Go.WideShapes Go.ChangeAt Go.RowKit Sha

theorem numbers_contract (H : Type) (enc : TypeId × Value → H) (W : World) (args : Array Value) (ds gs : List (DataW H)) (before : List MemPlace)
    (hW : DataW.Whole enc Tryd.prog Tryd.f3.params.toList Rows.holdNumbersSpec.vars false W args.toList ds gs before) (hL : laidMetH Tryd.prog Rows.holdNumbersRow.laid W) :
    Calls Tryd.prog 3 args W fun e W' => ∃ v, e = .returned v ∧ Rows.holdNumbersSpec.post enc Tryd.prog Tryd.f3 false true false false W args v W' := by
  obtain ⟨a0, a1, he⟩ := errs_of_laid hL
  have hW' := hW
  obtain ⟨p, q, hA0, hV, rfl, hfz, hnd⟩ := hW
  have hA : DataW.TrodAll enc Tryd.prog W 0 (fun _ => true) true Tryd.f3.params.toList args.toList ds p := hA0
  rw [Tryd.params3] at hA
  obtain ⟨h1, rfl, rfl⟩ := trodAll_nil hA
  obtain rfl : args = #[] := by cases args; simp_all
  obtain ⟨rfl, rfl⟩ := trodVars_none hV
  clear hA0
  refine (numbers_any W he).mono fun e W' ⟨he, hw⟩ => ?_
  subst he
  exact ⟨_, rfl, _, _, _, [], [], [], hW', trodAll_mk1 (shut_bool Tryd.underlying4 true), trodAll_mk0, rfl, kept_of_only hw _, fun h => by cases h⟩
theorem numbers_reads (os : Os) {H : Type} (enc : TypeId × Value → H) : ∃ places, DataW.whole enc Tryd.prog ((laidWorld os).forCall (fun _ _ => 0) ⟨#[], #[], []⟩).memory Tryd.f3.params.toList Rows.holdNumbersSpec.vars false (#[] : Array Value).toList 8 = some ([], [], places) :=
  ⟨[], by kernel_rfl⟩
set_option maxRecDepth 100000 in
theorem numbers_lifted (os : Os) (started : os.Started) (H : Type) (enc : TypeId × Value → H) (F : Stop.Interp) :
    ReturnsInHanded {} Tryd.checked os 3 .any ((OpenSpec.ofChange Rows.holdNumbersSpec).preRow enc Tryd.prog Tryd.f3 Rows.holdNumbersRow.domain false Rows.holdNumbersRow.laid) (((OpenSpec.ofChange Rows.holdNumbersSpec).at F).post enc Tryd.prog Tryd.f3 false true false false) := by
  obtain ⟨places, hx⟩ := numbers_reads os enc
  refine returnsInHanded_of_row (C := Tryd.checked) (s := OpenSpec.ofChange Rows.holdNumbersSpec) Tryd.own started (by kernel_rfl) Tryd.func3
    (witness_row_at (enc := enc) (C := Tryd.checked) false (laidWorld os) #[] rfl (by kernel_rfl) (by kernel_rfl) (by kernel_rfl)
      (OpenSpec.preRow_of_cond 8 hx (by kernel_rfl) (fun k hk => by cases hk) (by kernel_rfl) (laid_met os _))) ?_
  intro W base args ds gs before hval hW _ _ _ hL _ _
  exact numbers_contract H enc W args ds gs before hW hL
theorem numbers_said : Rows.HoldNumbersSaid :=
  OpenClaim.holds_of_cond 3 Tryd.f3 rfl rfl rfl rfl rfl rfl rfl ⟨rfl, rfl, rfl, rfl, rfl⟩ rfl rfl rfl rfl rfl (by kernel_rfl) Tryd.func3 (by kernel_rfl)
    (of_decide_eq_true (by kernel_rfl)) (by unfold Func.isWrapper; rw [if_neg (by decide +kernel)]; exact ⟨rfl, rfl⟩)
    (fun os started H enc _ F => by rw [OpenClaim.pre_eq_preRow]; exact numbers_lifted os started H enc F)
theorem numbers_plain (f : FuncId) (fn : Func) (hf : Tryd.pinned.checked.prog.funcNamed "slipway/slipwaylaw19.HoldNumbers" = some f) (hfn : Tryd.pinned.checked.prog.funcs[f]? = some fn) :
    true = Tryd.pinned.checked.prog.looks [] ∧ ∀ (j : Nat) t, fn.params[j]? = some t → Tryd.pinned.checked.prog.wantsStandIn t = false := by
  obtain rfl : f = 3 := Option.some.inj ((show Tryd.prog.funcNamed "slipway/slipwaylaw19.HoldNumbers" = some 3 by kernel_rfl).symm.trans hf) |>.symm
  obtain rfl : fn = Tryd.f3 := (Option.some.inj (Tryd.func3.symm.trans hfn)).symm
  refine ⟨by kernel_rfl, fun j t ht => ?_⟩
  rw [Tryd.params3] at ht
  simp at ht
/-- The card. -/
theorem numbers_card : Rows.HoldNumbersCardSaid :=
  Claim7.holds_tied_plain_at .later [] _ _ _ _ numbers_said (fun _ h => by cases h) (by kernel_rfl) (fun _ h => by cases h) holdNumbers_row_tie rfl ⟨rfl, rfl⟩ (by kernel_rfl) rfl numbers_plain (by kernel_rfl)
end Go.Proofs.YthkongkbefpilaaDoor
