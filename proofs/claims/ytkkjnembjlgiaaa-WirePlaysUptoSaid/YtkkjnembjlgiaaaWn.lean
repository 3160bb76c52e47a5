/-
  The walks of live and of WireNumbers.
-/
import Derived.Test.YtkkjnembjlgiaaaWm
namespace Go.Proofs.Ytkkjnembjlgiaaa
set_option maxRecDepth 100000
open Go.RowKit

theorem live_hp1 : putR { ws0 with fates := [⟨true, 0, 0⟩, ⟨false, 5, 0⟩, ⟨false, 1, 3⟩] } 10 [99] ⟨10, 0, 1, [], [⟨false, 5, 0⟩, ⟨false, 1, 3⟩]⟩ := by
  unfold putR
  split
  · rfl
  · rename_i h
    exact absurd rfl h
theorem live_s2 {s2 : WS} (h2 : putR ⟨10, 0, 1, [], [⟨false, 5, 0⟩, ⟨false, 1, 3⟩]⟩ 10 [100] s2) : ∃ a1 c1, s2 = ⟨10, 1, 1, [⟨15, 1, a1, c1, [100]⟩], [⟨false, 1, 3⟩]⟩ := by
  unfold putR layR at h2
  simp at h2
  rw [if_neg (by show ¬ 4096 ≤ 0; decide)] at h2
  obtain ⟨a, c, rfl⟩ := h2
  have hp : pushP [] ⟨15, 1, a, c, [100]⟩ = [⟨15, 1, a, c, [100]⟩] := by
    unfold pushP
    rw [up_one]
    rfl
  refine ⟨a, c, ?_⟩
  rw [← hp]
  rfl
theorem live_s3 {s2 s3 : WS} (h2 : putR ⟨10, 0, 1, [], [⟨false, 5, 0⟩, ⟨false, 1, 3⟩]⟩ 10 [100] s2) (h3 : putR s2 10 [101] s3) : ∃ a1 c1 a2 c2 a3 c3, s3 = ⟨10, 3, 1, [⟨11, 2, a2, c2, [101]⟩, ⟨15, 1, a1, c1, [100]⟩, ⟨14, 3, a3, c3, [101]⟩], []⟩ :=
  (live_states live_hp1 h2 h3).2.2
theorem parts_live (w : World) (f1 f2 f3 : Nat × Nat) : Parts ((((w.alloc (.cells #[.int .u8 101] 5 f1)).alloc (.cells #[.int .u8 101] 5 f2)).alloc (.cells #[.int .u8 100] 5 f3)).alloc (.cells #[.slice (some ⟨w.heap.size, 0, none⟩) 1 1, .slice (some ⟨w.heap.size + 1, 0, none⟩) 1 1, .slice (some ⟨w.heap.size + 1 + 1, 0, none⟩) 1 1] 39))
    (.slice (some ⟨w.heap.size + 1 + 1 + 1, 0, none⟩) 3 3) [.slice (some ⟨w.heap.size, 0, none⟩) 1 1, .slice (some ⟨w.heap.size + 1, 0, none⟩) 1 1, .slice (some ⟨w.heap.size + 1 + 1, 0, none⟩) 1 1] [[101], [101], [100]] := by
  have h1 := row_alloc (row_alloc (row_alloc (heap_alloc_new w (.cells #[.int .u8 101] 5 f1)) (.cells #[.int .u8 101] 5 f2)) (.cells #[.int .u8 100] 5 f3)) (.cells #[.slice (some ⟨w.heap.size, 0, none⟩) 1 1, .slice (some ⟨w.heap.size + 1, 0, none⟩) 1 1, .slice (some ⟨w.heap.size + 1 + 1, 0, none⟩) 1 1] 39)
  have h2 := row_alloc (row_alloc (heap_alloc_new (w.alloc (.cells #[.int .u8 101] 5 f1)) (.cells #[.int .u8 101] 5 f2)) (.cells #[.int .u8 100] 5 f3)) (.cells #[.slice (some ⟨w.heap.size, 0, none⟩) 1 1, .slice (some ⟨w.heap.size + 1, 0, none⟩) 1 1, .slice (some ⟨w.heap.size + 1 + 1, 0, none⟩) 1 1] 39)
  have h3 := row_alloc (heap_alloc_new ((w.alloc (.cells #[.int .u8 101] 5 f1)).alloc (.cells #[.int .u8 101] 5 f2)) (.cells #[.int .u8 100] 5 f3)) (.cells #[.slice (some ⟨w.heap.size, 0, none⟩) 1 1, .slice (some ⟨w.heap.size + 1, 0, none⟩) 1 1, .slice (some ⟨w.heap.size + 1 + 1, 0, none⟩) 1 1] 39)
  have h4 := heap_alloc_new (((w.alloc (.cells #[.int .u8 101] 5 f1)).alloc (.cells #[.int .u8 101] 5 f2)).alloc (.cells #[.int .u8 100] 5 f3)) (.cells #[.slice (some ⟨w.heap.size, 0, none⟩) 1 1, .slice (some ⟨w.heap.size + 1, 0, none⟩) 1 1, .slice (some ⟨w.heap.size + 1 + 1, 0, none⟩) 1 1] 39)
  rw [World.size_alloc] at h2
  rw [World.size_alloc, World.size_alloc] at h3
  rw [World.size_alloc, World.size_alloc, World.size_alloc] at h4
  refine ⟨⟨_, 3, rfl, Nat.le_refl _, fun _ => ⟨_, 0, rfl, fun j hj => ?_⟩⟩, rfl, fun j hj => ?_⟩
  · have hj3 : j < 3 := hj
    rw [Nat.zero_add, cell_of_row _ _ j _ _ _ h4]
    match j, hj3 with
    | 0, _ => rfl
    | 1, _ => rfl
    | 2, _ => rfl
  · have hj3 : j < 3 := hj
    match j, hj3 with
    | 0, _ => exact RB_row (bs := [101]) h1 1
    | 1, _ => exact RB_row (bs := [101]) h2 1
    | 2, _ => exact RB_row (bs := [100]) h3 1
set_option maxHeartbeats 1600000 in
theorem live_any (w : World) : Calls Try.prog 6 #[] w fun e w' => e = .returned (.bool true) ∧ Only Nil w w' := by
  go_enter Try.func6, Try.ntmps6
  go_upto_region 4 with (go_at_call 8; refine (Wr.new (Only.refl Nil w)).mono ?_; rintro e w1 ⟨b, rfl, h1⟩)
  have H1 := Lib.hid h1
  have hRF := Lib.hid (RF_row (l := [⟨true, 0, 0⟩, ⟨false, 5, 0⟩, ⟨false, 1, 3⟩]) (Blk.new w1 46 (flatF [⟨true, 0, 0⟩, ⟨false, 5, 0⟩, ⟨false, 1, 3⟩])))
  clear h1
  go_upto_region 5 with (go_at_call 12; refine ((H1.out.more ((Only.refl Nil w1).alloc _)).fates [⟨true, 0, 0⟩, ⟨false, 5, 0⟩, ⟨false, 1, 3⟩] _ hRF.out (by decide)).mono ?_; rintro e w2 ⟨rfl, h2⟩)
  have H2 := Lib.hid h2
  have q2 := lit_conv w2 #[.int .u8 99] 1 2 _ rfl rfl rfl
  clear h2 H1 hRF
  go_upto_region 6 with (go_at_call 13; refine (H2.out.put ((Only.refl Nil w2).alloc _) (by constructor <;> decide) (by decide) 10 (by decide) _ [99] (RB_row (bs := [99]) (heap_alloc_new w2 _) 1) (by decide) (fun _ k hk => .inl (by simp [blkOf] at hk; omega))).mono ?_; rintro e w3 ⟨rfl, s1, hp1, h3⟩)
  obtain ⟨rfl⟩ : s1 = ⟨10, 0, 1, [], [⟨false, 5, 0⟩, ⟨false, 1, 3⟩]⟩ := by
    have := putR_lost (f := ⟨true, 0, 0⟩) rfl rfl hp1
    rw [this]
    rfl
  have H3 := Lib.hid h3
  have q3 := lit_conv w3 #[.int .u8 100] 1 2 _ rfl rfl rfl
  clear h3 H2 q2 hp1
  go_upto_region 7 with (go_at_call 13; refine (H3.out.put ((Only.refl Nil w3).alloc _) (by constructor <;> decide) (by decide) 10 (by decide) _ [100] (RB_row (bs := [100]) (heap_alloc_new w3 _) 1) (by decide) (fun _ k hk => .inl (by simp [blkOf] at hk; omega))).mono ?_; rintro e w4 ⟨rfl, s2, hp2, h4⟩)
  have HP2 := Lib.hid hp2
  obtain ⟨a1, c1, rfl⟩ := live_s2 hp2
  have H4 := Lib.hid h4
  have q4 := lit_conv w4 #[.int .u8 101] 1 2 _ rfl rfl rfl
  have hfit : Fit ⟨10, 1, 1, [⟨15, 1, a1, c1, [100]⟩], [⟨false, 1, 3⟩]⟩ := ⟨by show (0 : Int) ≤ 10 ∧ (10 : Int) ≤ 1125899906842624; decide, by show (0 : Int) ≤ 1 ∧ (1 : Int) ≤ 1000000000000000; decide, by show (0 : Int) ≤ 1 ∧ (1 : Int) ≤ 1000000000000000; decide⟩
  have hfb : (1 : Int) ≤ 900000000000000 ∧ (1 : Int) ≤ 900000000000000 := by decide
  clear h4 H3 q3 hp2
  go_upto_region 8 with (go_at_call 13; refine (H4.out.put ((Only.refl Nil w4).alloc _) hfit hfb 10 (by decide) _ [101] (RB_row (bs := [101]) (heap_alloc_new w4 _) 1) (by decide) (fun _ k hk => .inl (by simp [blkOf] at hk; omega))).mono ?_; rintro e w5 ⟨rfl, s3, hp3, h5⟩)
  obtain ⟨b1, d1, b2, d2, b3, d3, rfl⟩ := live_s3 HP2.out hp3
  have hdu := h5.due (by show 3 ≤ 4096; decide) 15 (by decide)
  have e1 : dueO ⟨10, 3, 1, [⟨11, 2, b2, d2, [101]⟩, ⟨15, 1, b1, d1, [100]⟩, ⟨14, 3, b3, d3, [101]⟩], []⟩ 15 = [⟨11, 2, b2, d2, [101]⟩, ⟨14, 3, b3, d3, [101]⟩, ⟨15, 1, b1, d1, [100]⟩] := by
    show (dueP _ 15).2 = _
    rw [live_due]
  have e2 : dueS ⟨10, 3, 1, [⟨11, 2, b2, d2, [101]⟩, ⟨15, 1, b1, d1, [100]⟩, ⟨14, 3, b3, d3, [101]⟩], []⟩ 15 = ⟨15, 3, 1, [], []⟩ := by
    unfold dueS
    rw [show (dueP (WS.ways ⟨10, 3, 1, [⟨11, 2, b2, d2, [101]⟩, ⟨15, 1, b1, d1, [100]⟩, ⟨14, 3, b3, d3, [101]⟩], []⟩) (moveP ⟨10, 3, 1, [⟨11, 2, b2, d2, [101]⟩, ⟨15, 1, b1, d1, [100]⟩, ⟨14, 3, b3, d3, [101]⟩], []⟩ 15).now) = _ from live_due b1 b2 b3 d1 d2 d3]
    rfl
  rw [e1, e2] at hdu
  have HDU := Lib.hid hdu
  have H5 := Lib.hid h5
  have HNX := Lib.hid (show Calls Try.prog 15 #[.pointer (some ⟨b, 0, none⟩)] w5 fun e w' => e = .returned (.tuple #[.int .i64 11, .bool true]) ∧ w' = w5 from h5.next)
  have HLN := Lib.hid h5.len
  clear h5 hp3 HP2 H4 q4 hdu e1 e2
  go_upto_region 11 with (first
    | (go_at_call 15; refine HNX.out.mono ?_; rintro e w6 ⟨rfl, rfl⟩)
    | (go_at_call 16; refine HLN.out.mono ?_; rintro e w6 ⟨rfl, rfl⟩)
    | (go_at_call 14; refine HDU.out.mono ?_; rintro e w7 ⟨vl, rfl, h7, hp7⟩))
  have H7 := Lib.hid h7
  have HP7 := Lib.hid (show Parts w7 vl [Wy.d ⟨11, 2, b2, d2, [101]⟩, Wy.d ⟨14, 3, b3, d3, [101]⟩, Wy.d ⟨15, 1, b1, d1, [100]⟩] [[101], [101], [100]] from hp7)
  obtain ⟨n7, hn7⟩ : ∃ x, w7.heap.size = x := ⟨_, rfl⟩
  have qa := lit_conv w7 #[.int .u8 101] 1 2 n7 rfl rfl hn7.symm
  have qb := lit_conv (w7.alloc (.cells #[.int .u8 101] 5 (1, 2))) #[.int .u8 101] 1 2 (n7 + 1) rfl rfl (by rw [World.size_alloc, hn7])
  have qc := lit_conv ((w7.alloc (.cells #[.int .u8 101] 5 (1, 2))).alloc (.cells #[.int .u8 101] 5 (1, 2))) #[.int .u8 100] 1 2 (n7 + 1 + 1) rfl rfl (by rw [World.size_alloc, World.size_alloc, hn7])
  have hpl := parts_live w7 (1, 2) (1, 2) (1, 2)
  rw [hn7] at hpl
  have HPL := Lib.hid hpl
  clear h7 hp7 hpl H5 HNX HLN HDU
  have HO8 := Lib.hid (((((Only.refl Nil w7).alloc (.cells #[.int .u8 101] 5 (1, 2))).alloc (.cells #[.int .u8 101] 5 (1, 2))).alloc (.cells #[.int .u8 100] 5 (1, 2))).alloc (.cells #[.slice (some ⟨n7, 0, none⟩) 1 1, .slice (some ⟨n7 + 1, 0, none⟩) 1 1, .slice (some ⟨n7 + 1 + 1, 0, none⟩) 1 1] 39))
  have HSM := Lib.hid (same_any _ _ _ _ _ _ _ (HP7.out.only HO8.out) HPL.out (by decide))
  go_upto_region 12 with (go_at_call 18; refine HSM.out.mono ?_; rintro e w8 ⟨rfl, ho8⟩; have H8 := Lib.hid (H7.out.more (HO8.out.then ho8)); clear ho8)
  clear H7 HP7 HPL HO8 HSM qa qb qc
  have hls := H8.out.lost
  have hln := H8.out.len
  have HLS := Lib.hid hls
  have HLN := Lib.hid hln
  clear hls hln
  go_wp2_with (first
    | (go_at_call 17; refine HLS.out.mono ?_; rintro e w9 ⟨rfl, rfl⟩)
    | (go_at_call 16; refine HLN.out.mono ?_; rintro e w9 ⟨rfl, rfl⟩))
  go_ret
  exact ⟨rfl, H8.out.only⟩
theorem numbers_any (w : World) : Calls Try.prog 3 #[] w fun e w' => e = .returned (.bool true) ∧ Only Nil w w' := by
  go_enter Try.func3, Try.ntmps3
  go_wp2_with (go_at_call 6; refine (live_any _).mono ?_; rintro e w' ⟨rfl, ho⟩)
  go_ret
  exact ⟨rfl, ho⟩
end Go.Proofs.Ytkkjnembjlgiaaa
