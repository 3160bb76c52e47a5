/-
  JudgeBeginnings, the given row proved.
-/
import Derived.Test.YthoaeolohnalnaaJBeg
namespace Go.Proofs.Ythoaeolohnalnaa
open Go.RowKit Go.ChangeShapes Go.WideShapes Go.ChangeAt

def zCells : List Value := List.replicate 6 (.int .u8 0) ++ (Value.int .i64 0 :: Value.int .i64 0 :: Value.string ⟨#[]⟩ :: List.replicate 32 (Value.int .u8 0)) ++ List.replicate 4 (Value.int .i64 0)
def zCfg : Value := .agg zCells.toArray
set_option maxRecDepth 100000 in
theorem begin_lifted (os : Os) (started : os.Started) (H : Type) (enc : TypeId × Value → H) :
    ReturnsInHanded {} Try.checked os 9 .any (Rows.judgeBeginningsSpec.pre6 enc Try.prog Try.f9 Rows.judgeBeginningsRow.domain false) (Rows.judgeBeginningsSpec.post enc Try.prog Try.f9 false true false false) := by
  refine returnsInHanded_of_change_sized (C := Try.checked) Try.own started (by kernel_rfl) Try.func9
    (ChangeSpec.witness6 (enc := enc) (C := Try.checked) false ⟨#[], #[zCfg, .slice none 0 0, .int .i64 0], []⟩ 8 (by kernel_rfl) (by kernel_rfl) (by kernel_rfl) (by kernel_rfl)) ?_
  intro W base args ds gs before hval0 hW hcnd hsz0 _
  have hval : ∀ (j : Nat) t v, Try.f9.params[j]? = some t → args[j]? = some v → Value.okWide Try.prog W .any base t v := hval0
  have hsz : (DataW.weightsEach Try.prog (Try.f9.params.toList ++ Rows.judgeBeginningsSpec.plain.varTypes Try.prog) (ds ++ gs)).all (· ≤ reachBytes) = true := hsz0
  have hW' := hW
  obtain ⟨p, q, hA0, hV, rfl, hfz, hnd⟩ := hW
  have hA : DataW.TrodAll enc Try.prog W 0 (fun _ => true) true Try.f9.params.toList args.toList ds p := hA0
  rw [Try.params9] at hA hval hsz
  have hA1 := hA
  obtain ⟨v0, vs1, d0, ds1, p0, ps1, hargs, rfl, rfl, h0, hA2⟩ := trodAll_cons hA
  obtain ⟨v1, vs2, d1, ds2, p1, ps2, rfl, rfl, rfl, h1, hA3⟩ := trodAll_cons hA2
  obtain ⟨v2, vs3, d2, ds3, p2, ps3, rfl, rfl, rfl, h2, hA4⟩ := trodAll_cons hA3
  obtain ⟨rfl, rfl, rfl⟩ := trodAll_nil hA4
  obtain rfl : args = #[v0, v1, v2] := Array.ext' (by simpa using hargs)
  obtain ⟨rfl, rfl⟩ := trodVars_none hV
  obtain ⟨c, rfl, hc⟩ := open_cfg (hval 0 26 v0 rfl rfl) h0
  obtain ⟨l, hl, hd, hll⟩ := open_evs (hval 1 27 v1 rfl rfl) h1 (fun n hn => by
    have := List.all_eq_true.1 hsz _ (DataW.weights_mem_each (j := 1) (t := 27) rfl rfl n hn)
    simpa using this)
  obtain ⟨k, rfl, _, _, _⟩ := open_int Try.underlying3 (hval 2 3 v2 rfl rfl) h2
  rw [reachBytes] at hd hll
  clear hA0 hval0 hsz0 hsz
  have hlt := hW'.lt
  refine (beg_any c v1 l k W hc hl (fun j hj => Nat.le_trans (hd j hj) (by decide)) (by omega)).mono fun e W' ⟨he, hw⟩ => ?_
  subst he
  exact ⟨_, rfl, _, _, _, [], _, [], hW', trodAll_mk1 (shut_bool Try.underlying4 true), trodAll_stays Try.laidOut (hw.below (Nat.le_refl _) fun _ h => h.elim) (by kernel_rfl) hA1 (fun x hx => hlt x (by simpa using hx)), rfl, kept_of_only hw _, fun h => by cases h⟩
theorem begin_holds : Rows.JudgeBeginningsSaid :=
  OpenClaim.holds_of_wide 9 Try.f9 rfl rfl rfl rfl rfl rfl rfl ⟨rfl, rfl, rfl, rfl, rfl⟩ rfl rfl rfl rfl rfl (by kernel_rfl) Try.func9 (by kernel_rfl)
    (of_decide_eq_true (by kernel_rfl)) (by unfold Func.isWrapper; rw [if_neg (by decide +kernel)]; exact ⟨rfl, rfl⟩)
    (fun os started H enc _ => begin_lifted os started H enc)
end Go.Proofs.Ythoaeolohnalnaa
