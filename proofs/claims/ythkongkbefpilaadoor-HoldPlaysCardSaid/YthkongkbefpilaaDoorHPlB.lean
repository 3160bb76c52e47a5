/-
  HoldPlays: its walk where a bound is out of range; the whole. PRINTED by wip/tools/gen_hout.py.
-/
import Derived.Test.YthkongkbefpilaaDoorHPlA
namespace Go.Proofs.YthkongkbefpilaaDoor
set_option maxRecDepth 100000
open Go.RowKit Sha

theorem Fits.not {most : Int} (h : ¬ Fits most) : most < 0 ∨ 16777216 < most := by
  unfold Fits at h
  omega
set_option maxHeartbeats 40000000 in
theorem plays_tf {a0 a1 : Addr} (most other : Int) (want another : List UInt8) (hw : want.length = 32) (hw2 : another.length = 32) (hm : Fits most) (hm2 : ¬ Fits other) (v : Value) (l : List OpV) (w : World) (he : Errs w.heap.size a0 a1 w) (hv : Ops w v l) (hd : ∀ j, j < l.length → (l.getD j op0).bs.length ≤ 140737488355328) (hn : l.length ≤ 1000000000000000) :
    Calls Tryd.prog 5 #[.int .i64 most, .agg (BC want).toArray, .int .i64 other, .agg (BC another).toArray, v] w fun e w' => e = .returned (.bool true) ∧ Only Nil w w' := by
  have hz : (BC want).toArray.size = 32 := by rw [List.size_toArray, BC_length, hw]
  have hz2 : (BC another).toArray.size = 32 := by rw [List.size_toArray, BC_length, hw2]
  obtain ⟨n, hn0⟩ : ∃ b, w.heap.size = b := ⟨_, rfl⟩
  obtain ⟨w2, hw20⟩ : ∃ w2, w2 = (w.alloc (.cells (BC want).toArray 23)).alloc (.cells (BC another).toArray 23) := ⟨_, rfl⟩
  have HA0 := Lib.hid (show Only Nil w w2 from hw20 ▸ ((Only.refl Nil w).alloc _).alloc _)
  have HB1 := Lib.hid (show Blk w2 n 23 (BC want) from hw20 ▸ (hn0 ▸ Blk.new w _ _ : Blk (w.alloc _) n _ _).alloc _)
  have HB2 := Lib.hid (show Blk w2 (n + 1) 23 (BC another) from by
    have := Blk.new (w.alloc (.cells (BC want).toArray 23)) 23 (BC another)
    rw [World.size_alloc, hn0] at this
    rw [hw20]
    exact this)
  have HL := Lib.hid (live_any (a0 := a0) (a1 := a1) w2 ((he.only HA0.out fun _ e => e.elim).up HA0.out.size))
  have HBy := Lib.hid (beyond_any v l w2 (hv.only HA0.out) hd hn)
  have HW2 := Lib.hid hw20
  clear he hv hw20 hd
  obtain ⟨bb, hbb⟩ : ∃ b, beyE l = b := ⟨_, rfl⟩
  rw [hbb] at HBy
  by_cases hbt : bb = true
  · subst hbt
    go_enter Tryd.func5, Tryd.ntmps5
    go_upto_region 1 with fail
    rw [← HW2.out]
    go_wp2_with (go_at_call 12; refine HBy.out.mono ?_; rintro e w' ⟨rfl, rfl⟩)
    go_ret
    exact ⟨rfl, HA0.out⟩
  obtain rfl : bb = false := by simpa using hbt
  clear hbt hbb
  go_enter Tryd.func5, Tryd.ntmps5
  go_upto_region 1 with fail
  rw [← HW2.out]
  (try rw [hn0])
  go_upto_region 5 with (first
    | (go_at_call 12; refine HBy.out.mono ?_; rintro e w' ⟨rfl, rfl⟩)
    | (go_at_call 7; refine HL.out.mono ?_; rintro e w3 ⟨rfl, ho3⟩))
  have HOw3 := Lib.hid ho3
  clear ho3 HL HBy HW2
  go_upto_region 6 with (first
    | ((with_reducible show wpList _ _ _ (Oper.mk _ (.load 23 _) _ _ _ _ :: _) _ _); refine wpList_load_row rfl 23 (.tmp 6) rfl n rfl 23 (BC want).toArray (0, 0) _ (HOw3.out.blk HB1.out id) Tryd.underlying23 rfl (by rw [hz]; kernel_rfl) ?_)
    | (go_at_call 8; refine (New_some most want hw hm.1 hm.2 w3 w3.heap.size (Nat.le_refl _)).mono ?_; rintro e w4 ⟨p, rfl, _, ho, _⟩; have HOw4 := Lib.hid ho; clear ho))
  go_upto_region 7 with (first
    | ((with_reducible show wpList _ _ _ (Oper.mk _ (.load 23 _) _ _ _ _ :: _) _ _); refine wpList_load_row rfl 23 (.tmp 6) rfl n rfl 23 (BC want).toArray (0, 0) _ ((HOw3.out.then HOw4.out).blk HB1.out id) Tryd.underlying23 rfl (by rw [hz]; kernel_rfl) ?_)
    | (go_at_call 13; refine (rNew_some most want hw hm.1 hm.2 w4 w4.heap.size (Nat.le_refl _)).mono ?_; rintro e w5 ⟨p, rfl, _, ho, _⟩; have HOw5 := Lib.hid ho; clear ho))
  go_upto_region 8 with (first
    | ((with_reducible show wpList _ _ _ (Oper.mk _ (.load 23 _) _ _ _ _ :: _) _ _); refine wpList_load_row rfl 23 (.tmp 8) rfl (n + 1) rfl 23 (BC another).toArray (0, 0) _ (((HOw3.out.then HOw4.out).then HOw5.out).blk HB2.out id) Tryd.underlying23 rfl (by rw [hz2]; kernel_rfl) ?_)
    | (go_at_call 8; refine (New_none other another (Fits.not hm2) w5).mono ?_; rintro e w6 ⟨rfl, ho⟩; have HOw6 := Lib.hid ho; clear ho))
  go_upto_region 9 with (first
    | ((with_reducible show wpList _ _ _ (Oper.mk _ (.load 23 _) _ _ _ _ :: _) _ _); refine wpList_load_row rfl 23 (.tmp 8) rfl (n + 1) rfl 23 (BC another).toArray (0, 0) _ ((((HOw3.out.then HOw4.out).then HOw5.out).then HOw6.out).blk HB2.out id) Tryd.underlying23 rfl (by rw [hz2]; kernel_rfl) ?_)
    | (go_at_call 13; refine (rNew_none other another (Fits.not hm2) w6).mono ?_; rintro e w7 ⟨rfl, ho⟩; have HOw7 := Lib.hid ho; clear ho))
  go_wp2
  go_ret
  exact ⟨rfl, ((((HA0.out.then HOw3.out).then HOw4.out).then HOw5.out).then HOw6.out).then HOw7.out⟩
set_option maxHeartbeats 40000000 in
theorem plays_ft {a0 a1 : Addr} (most other : Int) (want another : List UInt8) (hw : want.length = 32) (hw2 : another.length = 32) (hm : ¬ Fits most) (hm2 : Fits other) (v : Value) (l : List OpV) (w : World) (he : Errs w.heap.size a0 a1 w) (hv : Ops w v l) (hd : ∀ j, j < l.length → (l.getD j op0).bs.length ≤ 140737488355328) (hn : l.length ≤ 1000000000000000) :
    Calls Tryd.prog 5 #[.int .i64 most, .agg (BC want).toArray, .int .i64 other, .agg (BC another).toArray, v] w fun e w' => e = .returned (.bool true) ∧ Only Nil w w' := by
  have hz : (BC want).toArray.size = 32 := by rw [List.size_toArray, BC_length, hw]
  have hz2 : (BC another).toArray.size = 32 := by rw [List.size_toArray, BC_length, hw2]
  obtain ⟨n, hn0⟩ : ∃ b, w.heap.size = b := ⟨_, rfl⟩
  obtain ⟨w2, hw20⟩ : ∃ w2, w2 = (w.alloc (.cells (BC want).toArray 23)).alloc (.cells (BC another).toArray 23) := ⟨_, rfl⟩
  have HA0 := Lib.hid (show Only Nil w w2 from hw20 ▸ ((Only.refl Nil w).alloc _).alloc _)
  have HB1 := Lib.hid (show Blk w2 n 23 (BC want) from hw20 ▸ (hn0 ▸ Blk.new w _ _ : Blk (w.alloc _) n _ _).alloc _)
  have HB2 := Lib.hid (show Blk w2 (n + 1) 23 (BC another) from by
    have := Blk.new (w.alloc (.cells (BC want).toArray 23)) 23 (BC another)
    rw [World.size_alloc, hn0] at this
    rw [hw20]
    exact this)
  have HL := Lib.hid (live_any (a0 := a0) (a1 := a1) w2 ((he.only HA0.out fun _ e => e.elim).up HA0.out.size))
  have HBy := Lib.hid (beyond_any v l w2 (hv.only HA0.out) hd hn)
  have HW2 := Lib.hid hw20
  clear he hv hw20 hd
  obtain ⟨bb, hbb⟩ : ∃ b, beyE l = b := ⟨_, rfl⟩
  rw [hbb] at HBy
  by_cases hbt : bb = true
  · subst hbt
    go_enter Tryd.func5, Tryd.ntmps5
    go_upto_region 1 with fail
    rw [← HW2.out]
    go_wp2_with (go_at_call 12; refine HBy.out.mono ?_; rintro e w' ⟨rfl, rfl⟩)
    go_ret
    exact ⟨rfl, HA0.out⟩
  obtain rfl : bb = false := by simpa using hbt
  clear hbt hbb
  go_enter Tryd.func5, Tryd.ntmps5
  go_upto_region 1 with fail
  rw [← HW2.out]
  (try rw [hn0])
  go_upto_region 5 with (first
    | (go_at_call 12; refine HBy.out.mono ?_; rintro e w' ⟨rfl, rfl⟩)
    | (go_at_call 7; refine HL.out.mono ?_; rintro e w3 ⟨rfl, ho3⟩))
  have HOw3 := Lib.hid ho3
  clear ho3 HL HBy HW2
  go_upto_region 6 with (first
    | ((with_reducible show wpList _ _ _ (Oper.mk _ (.load 23 _) _ _ _ _ :: _) _ _); refine wpList_load_row rfl 23 (.tmp 6) rfl n rfl 23 (BC want).toArray (0, 0) _ (HOw3.out.blk HB1.out id) Tryd.underlying23 rfl (by rw [hz]; kernel_rfl) ?_)
    | (go_at_call 8; refine (New_none most want (Fits.not hm) w3).mono ?_; rintro e w4 ⟨rfl, ho⟩; have HOw4 := Lib.hid ho; clear ho))
  go_upto_region 7 with (first
    | ((with_reducible show wpList _ _ _ (Oper.mk _ (.load 23 _) _ _ _ _ :: _) _ _); refine wpList_load_row rfl 23 (.tmp 6) rfl n rfl 23 (BC want).toArray (0, 0) _ ((HOw3.out.then HOw4.out).blk HB1.out id) Tryd.underlying23 rfl (by rw [hz]; kernel_rfl) ?_)
    | (go_at_call 13; refine (rNew_none most want (Fits.not hm) w4).mono ?_; rintro e w5 ⟨rfl, ho⟩; have HOw5 := Lib.hid ho; clear ho))
  go_upto_region 8 with (first
    | ((with_reducible show wpList _ _ _ (Oper.mk _ (.load 23 _) _ _ _ _ :: _) _ _); refine wpList_load_row rfl 23 (.tmp 8) rfl (n + 1) rfl 23 (BC another).toArray (0, 0) _ (((HOw3.out.then HOw4.out).then HOw5.out).blk HB2.out id) Tryd.underlying23 rfl (by rw [hz2]; kernel_rfl) ?_)
    | (go_at_call 8; refine (New_some other another hw2 hm2.1 hm2.2 w5 w5.heap.size (Nat.le_refl _)).mono ?_; rintro e w6 ⟨p, rfl, _, ho, _⟩; have HOw6 := Lib.hid ho; clear ho))
  go_upto_region 9 with (first
    | ((with_reducible show wpList _ _ _ (Oper.mk _ (.load 23 _) _ _ _ _ :: _) _ _); refine wpList_load_row rfl 23 (.tmp 8) rfl (n + 1) rfl 23 (BC another).toArray (0, 0) _ ((((HOw3.out.then HOw4.out).then HOw5.out).then HOw6.out).blk HB2.out id) Tryd.underlying23 rfl (by rw [hz2]; kernel_rfl) ?_)
    | (go_at_call 13; refine (rNew_some other another hw2 hm2.1 hm2.2 w6 w6.heap.size (Nat.le_refl _)).mono ?_; rintro e w7 ⟨p, rfl, _, ho, _⟩; have HOw7 := Lib.hid ho; clear ho))
  go_wp2
  go_ret
  exact ⟨rfl, ((((HA0.out.then HOw3.out).then HOw4.out).then HOw5.out).then HOw6.out).then HOw7.out⟩
set_option maxHeartbeats 40000000 in
theorem plays_ff {a0 a1 : Addr} (most other : Int) (want another : List UInt8) (hw : want.length = 32) (hw2 : another.length = 32) (hm : ¬ Fits most) (hm2 : ¬ Fits other) (v : Value) (l : List OpV) (w : World) (he : Errs w.heap.size a0 a1 w) (hv : Ops w v l) (hd : ∀ j, j < l.length → (l.getD j op0).bs.length ≤ 140737488355328) (hn : l.length ≤ 1000000000000000) :
    Calls Tryd.prog 5 #[.int .i64 most, .agg (BC want).toArray, .int .i64 other, .agg (BC another).toArray, v] w fun e w' => e = .returned (.bool true) ∧ Only Nil w w' := by
  have hz : (BC want).toArray.size = 32 := by rw [List.size_toArray, BC_length, hw]
  have hz2 : (BC another).toArray.size = 32 := by rw [List.size_toArray, BC_length, hw2]
  obtain ⟨n, hn0⟩ : ∃ b, w.heap.size = b := ⟨_, rfl⟩
  obtain ⟨w2, hw20⟩ : ∃ w2, w2 = (w.alloc (.cells (BC want).toArray 23)).alloc (.cells (BC another).toArray 23) := ⟨_, rfl⟩
  have HA0 := Lib.hid (show Only Nil w w2 from hw20 ▸ ((Only.refl Nil w).alloc _).alloc _)
  have HB1 := Lib.hid (show Blk w2 n 23 (BC want) from hw20 ▸ (hn0 ▸ Blk.new w _ _ : Blk (w.alloc _) n _ _).alloc _)
  have HB2 := Lib.hid (show Blk w2 (n + 1) 23 (BC another) from by
    have := Blk.new (w.alloc (.cells (BC want).toArray 23)) 23 (BC another)
    rw [World.size_alloc, hn0] at this
    rw [hw20]
    exact this)
  have HL := Lib.hid (live_any (a0 := a0) (a1 := a1) w2 ((he.only HA0.out fun _ e => e.elim).up HA0.out.size))
  have HBy := Lib.hid (beyond_any v l w2 (hv.only HA0.out) hd hn)
  have HW2 := Lib.hid hw20
  clear he hv hw20 hd
  obtain ⟨bb, hbb⟩ : ∃ b, beyE l = b := ⟨_, rfl⟩
  rw [hbb] at HBy
  by_cases hbt : bb = true
  · subst hbt
    go_enter Tryd.func5, Tryd.ntmps5
    go_upto_region 1 with fail
    rw [← HW2.out]
    go_wp2_with (go_at_call 12; refine HBy.out.mono ?_; rintro e w' ⟨rfl, rfl⟩)
    go_ret
    exact ⟨rfl, HA0.out⟩
  obtain rfl : bb = false := by simpa using hbt
  clear hbt hbb
  go_enter Tryd.func5, Tryd.ntmps5
  go_upto_region 1 with fail
  rw [← HW2.out]
  (try rw [hn0])
  go_upto_region 5 with (first
    | (go_at_call 12; refine HBy.out.mono ?_; rintro e w' ⟨rfl, rfl⟩)
    | (go_at_call 7; refine HL.out.mono ?_; rintro e w3 ⟨rfl, ho3⟩))
  have HOw3 := Lib.hid ho3
  clear ho3 HL HBy HW2
  go_upto_region 6 with (first
    | ((with_reducible show wpList _ _ _ (Oper.mk _ (.load 23 _) _ _ _ _ :: _) _ _); refine wpList_load_row rfl 23 (.tmp 6) rfl n rfl 23 (BC want).toArray (0, 0) _ (HOw3.out.blk HB1.out id) Tryd.underlying23 rfl (by rw [hz]; kernel_rfl) ?_)
    | (go_at_call 8; refine (New_none most want (Fits.not hm) w3).mono ?_; rintro e w4 ⟨rfl, ho⟩; have HOw4 := Lib.hid ho; clear ho))
  go_upto_region 7 with (first
    | ((with_reducible show wpList _ _ _ (Oper.mk _ (.load 23 _) _ _ _ _ :: _) _ _); refine wpList_load_row rfl 23 (.tmp 6) rfl n rfl 23 (BC want).toArray (0, 0) _ ((HOw3.out.then HOw4.out).blk HB1.out id) Tryd.underlying23 rfl (by rw [hz]; kernel_rfl) ?_)
    | (go_at_call 13; refine (rNew_none most want (Fits.not hm) w4).mono ?_; rintro e w5 ⟨rfl, ho⟩; have HOw5 := Lib.hid ho; clear ho))
  go_upto_region 8 with (first
    | ((with_reducible show wpList _ _ _ (Oper.mk _ (.load 23 _) _ _ _ _ :: _) _ _); refine wpList_load_row rfl 23 (.tmp 8) rfl (n + 1) rfl 23 (BC another).toArray (0, 0) _ (((HOw3.out.then HOw4.out).then HOw5.out).blk HB2.out id) Tryd.underlying23 rfl (by rw [hz2]; kernel_rfl) ?_)
    | (go_at_call 8; refine (New_none other another (Fits.not hm2) w5).mono ?_; rintro e w6 ⟨rfl, ho⟩; have HOw6 := Lib.hid ho; clear ho))
  go_upto_region 9 with (first
    | ((with_reducible show wpList _ _ _ (Oper.mk _ (.load 23 _) _ _ _ _ :: _) _ _); refine wpList_load_row rfl 23 (.tmp 8) rfl (n + 1) rfl 23 (BC another).toArray (0, 0) _ ((((HOw3.out.then HOw4.out).then HOw5.out).then HOw6.out).blk HB2.out id) Tryd.underlying23 rfl (by rw [hz2]; kernel_rfl) ?_)
    | (go_at_call 13; refine (rNew_none other another (Fits.not hm2) w6).mono ?_; rintro e w7 ⟨rfl, ho⟩; have HOw7 := Lib.hid ho; clear ho))
  go_wp2
  go_ret
  exact ⟨rfl, ((((HA0.out.then HOw3.out).then HOw4.out).then HOw5.out).then HOw6.out).then HOw7.out⟩
theorem plays_any {a0 a1 : Addr} (most other : Int) (want another : List UInt8) (hw : want.length = 32) (hw2 : another.length = 32) (v : Value) (l : List OpV) (w : World) (he : Errs w.heap.size a0 a1 w) (hv : Ops w v l) (hd : ∀ j, j < l.length → (l.getD j op0).bs.length ≤ 140737488355328) (hn : l.length ≤ 1000000000000000) :
    Calls Tryd.prog 5 #[.int .i64 most, .agg (BC want).toArray, .int .i64 other, .agg (BC another).toArray, v] w fun e w' => e = .returned (.bool true) ∧ Only Nil w w' := by
  by_cases hm : Fits most
  · by_cases hm2 : Fits other
    · exact plays_in most other want another hw hw2 hm hm2 v l w he hv hd hn
    · exact plays_tf most other want another hw hw2 hm hm2 v l w he hv hd hn
  · by_cases hm2 : Fits other
    · exact plays_ft most other want another hw hw2 hm hm2 v l w he hv hd hn
    · exact plays_ff most other want another hw hw2 hm hm2 v l w he hv hd hn
end Go.Proofs.YthkongkbefpilaaDoor
