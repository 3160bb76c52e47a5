/-
  DigestTexts answers true for every digest and every text: the walk, and the given row proved.
-/
import Derived.Test.YthkongkbefpilaaRowA
namespace Go.Proofs.Ythkongkbefpilaa
open Go.RowKit Sha

theorem un_length (bs : List UInt8) : (un bs).length = 32 := by
  unfold un
  split
  · exact unhex_length bs
  · rfl
set_option maxHeartbeats 3200000 in
set_option maxRecDepth 100000 in
theorem texts_any (d s : List UInt8) (w : World) (hd : d.length = 32) : Calls Try.prog 6 #[.agg (BC d).toArray, .string (str s)] w fun e w' => e = .returned (.bool true) ∧ Only Nil w w' := by
  have hn : (BC d).toArray.size = 32 := by simp [BC_length, hd]
  have hu : (BC (un s)).toArray.size = 32 := by simp [BC_length, un_length]
  have z2 : ∀ W, (Op.equalIn 10000 26 (.agg (BC (un s)).toArray) (.agg (BC (un s)).toArray)).run Try.prog W = .ok true W := fun W => by rw [equal32 W _ _ (un_length _) (un_length _)]; simp
  go_enter Try.func6, Try.ntmps6
  obtain ⟨b2, hb2⟩ : ∃ b, w.heap.size = b := ⟨_, rfl⟩
  go_upto_region 1 with fail
  refine wp_gen (Keep w [(b2, d)]) ⟨(Only.refl _ _).alloc _, fun x hx => by obtain rfl := List.mem_singleton.1 hx; exact hb2 ▸ Blk.new w _ _⟩ ?_
  (try rw [hb2])
  clear hb2
  intro w2 h2
  have H2 := Lib.hid h2
  clear h2
  go_upto_region 4 with (go_at_call 8; refine (live_any _).mono ?_; rintro e w5 ⟨rfl, ho5⟩)
  have H3 := Lib.hid (H2.out.only ho5)
  clear H2 ho5
  go_upto_region 6 with (first
    | ((with_reducible show wpList _ _ _ (Oper.mk _ (.load 26 (.tmp 2)) _ _ _ _ :: _) _ _); refine wpList_load_row rfl 26 (.tmp 2) rfl b2 rfl 26 (BC d).toArray (0, 0) _ (H3.out.2 (b2, d) (by simp)) Try.underlying26 rfl (by rw [hn]; kernel_rfl) ?_)
    | (go_at_call 23; refine (hex_any d _ hd).mono ?_; rintro e w4 ⟨rfl, ho4⟩)
    | (go_at_call 24; refine (unhex_any s _).mono ?_; rintro e w6 ⟨rfl, ho6⟩)
    | ((with_reducible show wpList _ _ _ (Oper.mk _ (.store 26 _ _) _ _ _ _ :: _) _ _); refine wpList_store_row rfl 26 (.tmp 7) (.tmp 20) rfl w6.heap.size (BC (un s)).toArray rfl rfl _ _ (heap_alloc_new w6 _) (by rw [hu]; kernel_rfl) (by rw [hu]; rfl) (all_oneCell_toArray (BC_one _)) ?_))
  obtain ⟨b7, hb7⟩ : ∃ b, w6.heap.size = b := ⟨_, rfl⟩
  refine wp_gen (Keep w [(b7, un s), (b2, d)]) (hb7 ▸ ((H3.out.only ho4).only ho6).put _ _) ?_
  rw [hb7]
  clear hb7 H3 ho4 ho6
  intro w2 h2
  have H2 := Lib.hid h2
  clear h2
  go_upto_region 8 with (first
    | ((with_reducible show wpList _ _ _ (Oper.mk _ (.load 26 (.tmp 2)) _ _ _ _ :: _) _ _); refine wpList_load_row rfl 26 (.tmp 2) rfl b2 rfl 26 (BC d).toArray (0, 0) _ (H2.out.2 (b2, d) (by simp)) Try.underlying26 rfl (by rw [hn]; kernel_rfl) ?_)
    | (go_at_call 25; refine (rhex_any d _ hd).mono ?_; rintro e w4 ⟨rfl, ho4⟩)
    | (go_at_call 26; refine (runhex_any s _).mono ?_; rintro e w6 ⟨rfl, ho6⟩)
    | ((with_reducible show wpList _ _ _ (Oper.mk _ (.store 26 _ _) _ _ _ _ :: _) _ _); refine wpList_store_row rfl 26 (.tmp 10) (.tmp 27) rfl w6.heap.size (BC (un s)).toArray rfl rfl _ _ (heap_alloc_new w6 _) (by rw [hu]; kernel_rfl) (by rw [hu]; rfl) (all_oneCell_toArray (BC_one _)) ?_))
  obtain ⟨b10, hb10⟩ : ∃ b, w6.heap.size = b := ⟨_, rfl⟩
  refine wp_gen (Keep w [(b10, un s), (b7, un s), (b2, d)]) (hb10 ▸ ((H2.out.only ho4).only ho6).put _ _) ?_
  rw [hb10]
  clear hb10 H2 ho4 ho6
  intro w2 h2
  have H2 := Lib.hid h2
  clear h2
  go_wp2_with (first
    | ((with_reducible show wpList _ _ _ (Oper.mk _ (.load 26 (.tmp 7)) _ _ _ _ :: _) _ _); refine wpList_load_wanted (by rfl) 26 (.tmp 7) rfl b7 rfl 26 (BC (un s)).toArray (0, 0) _ (H2.out.2 (b7, un s) (by simp)) Try.underlying26 rfl (by rw [hu]; kernel_rfl) ?_)
    | ((with_reducible show wpList _ _ _ (Oper.mk _ (.load 26 (.tmp 10)) _ _ _ _ :: _) _ _); refine wpList_load_wanted (by rfl) 26 (.tmp 10) rfl b10 rfl 26 (BC (un s)).toArray (0, 0) _ (H2.out.2 (b10, un s) (by simp)) Try.underlying26 rfl (by rw [hu]; kernel_rfl) ?_))
  go_ret
  exact ⟨rfl, H2.out.1⟩

open Go.ChangeShapes Go.WideShapes Go.ChangeAt
open Go.ChangeMaps (open_string)
set_option maxRecDepth 100000 in
theorem texts_lifted (os : Os) (started : os.Started) (H : Type) (enc : TypeId × Value → H) :
    ReturnsInHanded {} Try.checked os 6 .any (Rows.digestTextsSpec.pre6 enc Try.prog Try.f6 Rows.digestTextsRow.domain false) (Rows.digestTextsSpec.post enc Try.prog Try.f6 false true false false) := by
  refine returnsInHanded_of_change (C := Try.checked) Try.own started (by kernel_rfl) Try.func6
    (ChangeSpec.witness6 (enc := enc) (C := Try.checked) false ⟨#[], #[.agg (Array.replicate 32 (.int .u8 0)), .string ⟨#[]⟩], []⟩ 8 (by kernel_rfl) (by kernel_rfl) (by kernel_rfl) (by kernel_rfl)) ?_
  intro W base args ds gs before hval0 hW hcnd _
  have hval : ∀ (j : Nat) t v, Try.f6.params[j]? = some t → args[j]? = some v → Value.okWide Try.prog W .any base t v := hval0
  have hW' := hW
  obtain ⟨p, q, hA0, hV, rfl, hfz, hnd⟩ := hW
  have hA : DataW.TrodAll enc Try.prog W 0 (fun _ => true) true Try.f6.params.toList args.toList ds p := hA0
  rw [Try.params6] at hA hval
  have hA1 := hA
  obtain ⟨v0, v1, d0, d1, p0, p1, rfl, rfl, rfl, h0, h1⟩ := trodAll_two hA
  obtain ⟨rfl, rfl⟩ := trodVars_none hV
  obtain ⟨d, rfl, hd⟩ := open_bytes Try.underlying26 Try.underlying5 (by kernel_rfl) (by kernel_rfl) (hval 0 26 v0 rfl rfl) h0
  obtain ⟨s, rfl, rfl, rfl, hs⟩ := open_string Try.underlying9 (hval 1 9 v1 rfl rfl) h1
  clear hA0 hval0
  have hlt := hW'.lt
  have hwalk := texts_any d s.data.toList W hd
  rw [← str_of_data s] at hwalk
  refine hwalk.mono fun e W' ⟨he, hw⟩ => ?_
  subst he
  exact ⟨_, rfl, _, _, _, [], _, [], hW', trodAll_mk1 (shut_bool Try.underlying4 true), trodAll_stays Try.laidOut (hw.below (Nat.le_refl _) fun _ h => h.elim) (by kernel_rfl) hA1 (fun x hx => hlt x (by simpa using hx)), rfl, kept_of_only hw _, fun h => by cases h⟩
theorem texts_holds : Rows.DigestTextsSaid :=
  OpenClaim.holds_of_wide 6 Try.f6 rfl rfl rfl rfl rfl rfl rfl ⟨rfl, rfl, rfl, rfl, rfl⟩ rfl rfl rfl rfl rfl (by kernel_rfl) Try.func6 (by kernel_rfl)
    (of_decide_eq_true (by kernel_rfl)) (by unfold Func.isWrapper; rw [if_neg (by decide +kernel)]; exact ⟨rfl, rfl⟩)
    (fun os started H enc _ => texts_lifted os started H enc)
end Go.Proofs.Ythkongkbefpilaa
