/-
  JudgeAddressed answers true for every slice of bytes: the walk, and the given row proved.
-/
import Derived.Test.YthoaeolohnalnaaRow2
import Derived.Test.YthoaeolohnalnaaJl
import Derived.Test.YthoaeolohnalnaaJm
namespace Go.Proofs.Ythoaeolohnalnaa
open Go.RowKit

theorem rb_marked {w : World} {g : Nat} {bs : List UInt8} (hB : Blk w g 5 (BC (bs ++ [71, 72]))) : RB w (.slice (some ⟨g, 0, none⟩) bs.length (bs.length + 2)) bs := ⟨_, _, rfl, by omega, fun _ => ⟨g, 0, rfl, fun j hj => by
  rw [Nat.zero_add, hB.cell, BC_append, List.getElem?_append_left (by rw [BC_length]; exact hj)]
  exact BC_get _ _ hj⟩⟩
set_option maxHeartbeats 3200000 in
theorem addr_any (v : Value) (bs : List UInt8) (w : World) (hb : RB w v bs) (hl : bs.length ≤ 140737488355328) : Calls Try.prog 8 #[v] w fun e w' => e = .returned (.bool true) ∧ Only Nil w w' := by
  have A1 := Lib.hid (show ∀ W, Only Nil w W → RB W v bs from fun W ho => hb.only ho fun _ _ => id)
  have hlow := Lib.hid (show 0 < bs.length → ∀ g, blkOf v = some g → g < w.heap.size from fun h0 g hg => by
    obtain ⟨g', e, hl⟩ := hb.block h0
    rw [hg] at e
    injection e with e
    omega)
  clear hb
  go_enter Try.func8, Try.ntmps8
  go_upto_region 3 with (first
    | (go_at_call 11; refine (live_any _).mono ?_; rintro e w1 ⟨rfl, ho1⟩)
    | (go_at_call 23; refine (lentb_any v bs w1 (A1.out _ ho1) hl).mono ?_; rintro e w2 ⟨rfl, hB2, ho2⟩))
  obtain ⟨g, hg⟩ : ∃ b, w1.heap.size = b := ⟨_, rfl⟩
  have HG := Lib.hid (show w.heap.size ≤ g by rw [← hg]; exact ho1.size)
  rw [hg] at hB2 ⊢
  refine wp_gen (fun W => Only Nil w W ∧ Blk W g 5 (BC (bs ++ [71, 72]))) ⟨ho1.then ho2, hB2⟩ ?_
  clear ho1 ho2 hB2 hg
  intro w3 h3
  have H3 := Lib.hid h3
  clear h3
  go_upto_region 4 with (go_at_call 24; refine (addressed_any _ bs _ (rb_marked H3.out.2)).mono ?_; rintro e w4 ⟨rfl, n, rfl⟩)
  refine wp_gen (fun W => Only Nil w W ∧ Blk W g 5 (BC (bs ++ [71, 72]))) ⟨H3.out.1.drewN n, H3.out.2.drewN n⟩ ?_
  clear H3
  intro w3 h3
  have H3 := Lib.hid h3
  clear h3
  go_upto_region 5 with (go_at_call 25; refine (aslent_any g v bs _ H3.out.2 (A1.out _ H3.out.1) hl).mono ?_; rintro e w4 ⟨rfl, ho4⟩)
  refine wp_gen (Only Nil w) (H3.out.1.trans ho4 fun i hi => .inr (by rw [show i = g from hi]; exact HG.out)) ?_
  clear H3 ho4
  intro w3 h3
  have H3 := Lib.hid h3
  clear h3
  obtain ⟨ap, hap⟩ : ∃ x, addrP bs = x := ⟨_, rfl⟩
  obtain ⟨aok, hao⟩ : ∃ x, addrOk bs = x := ⟨_, rfl⟩
  have hcall := raddressed_any v bs w3 (A1.out _ H3.out)
  rw [hap, hao] at hcall ⊢
  clear hap hao
  go_wp2_with (go_at_call 26; refine hcall.mono ?_; rintro e w4 ⟨rfl, n, rfl⟩)
  go_ret
  exact ⟨by simp, H3.out.drewN n⟩

open Go.ChangeShapes Go.WideShapes Go.ChangeAt
set_option maxRecDepth 100000 in
theorem addr_lifted (os : Os) (started : os.Started) (H : Type) (enc : TypeId × Value → H) :
    ReturnsInHanded {} Try.checked os 8 .any (Rows.judgeAddressedSpec.pre6 enc Try.prog Try.f8 Rows.judgeAddressedRow.domain false) (Rows.judgeAddressedSpec.post enc Try.prog Try.f8 false true false false) := by
  refine returnsInHanded_of_change_sized (C := Try.checked) Try.own started (by kernel_rfl) Try.func8
    (ChangeSpec.witness6 (enc := enc) (C := Try.checked) false ⟨#[], #[.slice none 0 0], []⟩ 8 (by kernel_rfl) (by kernel_rfl) (by kernel_rfl) (by kernel_rfl)) ?_
  intro W base args ds gs before hval0 hW hcnd hsz0 _
  have hval : ∀ (j : Nat) t v, Try.f8.params[j]? = some t → args[j]? = some v → Value.okWide Try.prog W .any base t v := hval0
  have hsz : (DataW.weightsEach Try.prog (Try.f8.params.toList ++ Rows.judgeAddressedSpec.plain.varTypes Try.prog) (ds ++ gs)).all (· ≤ reachBytes) = true := hsz0
  have hW' := hW
  obtain ⟨p, q, hA0, hV, rfl, hfz, hnd⟩ := hW
  have hA : DataW.TrodAll enc Try.prog W 0 (fun _ => true) true Try.f8.params.toList args.toList ds p := hA0
  rw [Try.params8] at hA hval hsz
  have hA1 := hA
  obtain ⟨v0, vs1, d0, ds1, p0, ps1, hargs, rfl, rfl, h0, hA2⟩ := trodAll_cons hA
  obtain ⟨rfl, rfl, rfl⟩ := trodAll_nil hA2
  obtain rfl : args = #[v0] := Array.ext' (by simpa using hargs)
  obtain ⟨rfl, rfl⟩ := trodVars_none hV
  obtain ⟨bs, hb, hlen⟩ := open_rb2 Try.underlying46 Try.underlying5 (by kernel_rfl) (hval 0 46 v0 rfl rfl) h0
  have hl : bs.length ≤ 140737488355328 := by
    rcases hlen with rfl | ⟨es, sp, rfl, he⟩
    · exact Nat.zero_le _
    · have h := sized_slice hsz (j := 0) (t := 46) (e := 5) rfl rfl Try.underlying46
      have hb1 : Try.prog.bytesOf 5 = 1 := by kernel_rfl
      rw [hb1, reachBytes] at h
      omega
  clear hA0 hval0 hsz0 hsz
  have hlt := hW'.lt
  refine (addr_any v0 bs W hb hl).mono fun e W' ⟨he, hw⟩ => ?_
  subst he
  exact ⟨_, rfl, _, _, _, [], _, [], hW', trodAll_mk1 (shut_bool Try.underlying4 true), trodAll_stays Try.laidOut (hw.below (Nat.le_refl _) fun _ h => h.elim) (by kernel_rfl) hA1 (fun x hx => hlt x (by simpa using hx)), rfl, kept_of_only hw _, fun h => by cases h⟩
theorem addr_holds : Rows.JudgeAddressedSaid :=
  OpenClaim.holds_of_wide 8 Try.f8 rfl rfl rfl rfl rfl rfl rfl ⟨rfl, rfl, rfl, rfl, rfl⟩ rfl rfl rfl rfl rfl (by kernel_rfl) Try.func8 (by kernel_rfl)
    (of_decide_eq_true (by kernel_rfl)) (by unfold Func.isWrapper; rw [if_neg (by decide +kernel)]; exact ⟨rfl, rfl⟩)
    (fun os started H enc _ => addr_lifted os started H enc)
end Go.Proofs.Ythoaeolohnalnaa
