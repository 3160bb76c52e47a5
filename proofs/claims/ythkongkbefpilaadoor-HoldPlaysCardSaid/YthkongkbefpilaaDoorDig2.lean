/-
  The walk of digest.schedule: a block's 64 words.
-/
import Derived.Test.YthkongkbefpilaaDoorDig1
namespace Go.Proofs.YthkongkbefpilaaDoor
open Go.RowKit Sha
attribute [local go_sem] u_xor u_and u_or u_add u_shr u_shl by_conv u_shl24 u_shl16 u_shl8 u_shr3 u_shr10
/-- What both loops keep: the block in its box, the words so far, the result's place, nothing else turned. -/
def SchedAt (w wr : World) (l : List UInt8) (t : Nat) : Prop :=
  Blk wr w.heap.size 73 (BC l) ∧ (∃ z, Blk wr (w.heap.size + 1) 99 z ∧ z.length = 64) ∧ Blk wr (w.heap.size + 1 + 1) 99 (WC (room (wordsTo l t))) ∧ Only Nil w wr
theorem sched_low {w wr : World} {l : List UInt8} {t : Nat} (h : SchedAt w wr l t) (ht : t < 16) :
    SchedAt w (wr.drew.setCell ⟨w.heap.size + 1 + 1, t, none⟩ (.int .u32 (wd (packAt l t)))) l (t + 1) := by
  obtain ⟨h1, ⟨z, h2, h2'⟩, h3, h4⟩ := h
  refine ⟨h1.drew.far (by simp; omega) _, ⟨z, h2.drew.far (by simp) _, h2'⟩, ?_, h4.drew.setCell (.inr (by simp; omega)) _⟩
  have := h3.drew.set t (.int .u32 (wd (packAt l t)))
  rw [WC_set] at this
  have e := room_set (wordsTo l t) (packAt l t) (by rw [wordsTo_length]; omega)
  rw [wordsTo_length] at e
  rw [e, ← wordsTo_low l t ht] at this
  exact this
theorem room_words (l : List UInt8) (t i : Nat) (h : i < t) : (room (wordsTo l t)).getD i 0 = (wordsTo l t).getD i 0 := room_get _ _ (by rw [wordsTo_length]; exact h)
theorem sched_high {w wr : World} {l : List UInt8} {t : Nat} (h : SchedAt w wr l t) (ht : 16 ≤ t) (h64 : t < 64) {w2 : World} (hw : ∃ k, w2 = wr.drewN k) (x : BitVec 32) (hx : x = next (wordsTo l t) t) :
    SchedAt w (w2.setCell ⟨w.heap.size + 1 + 1, t, none⟩ (.int .u32 (wd x))) l (t + 1) := by
  obtain ⟨k, rfl⟩ := hw
  subst hx
  obtain ⟨h1, ⟨z, h2, h2'⟩, h3, h4⟩ := h
  refine ⟨(h1.drewN k).far (by simp; omega) _, ⟨z, (h2.drewN k).far (by simp) _, h2'⟩, ?_, (h4.drewN k).setCell (.inr (by simp; omega)) _⟩
  have := (h3.drewN k).set t (.int .u32 (wd (next (wordsTo l t) t)))
  rw [WC_set] at this
  have e := room_set (wordsTo l t) (next (wordsTo l t) t) (by rw [wordsTo_length]; omega)
  rw [wordsTo_length] at e
  rw [e, ← wordsTo_high l t ht] at this
  exact this
theorem sched_drewN {w wr : World} {l : List UInt8} {t : Nat} (h : SchedAt w wr l t) (n : Nat) : SchedAt w (wr.drewN n) l t :=
  ⟨h.1.drewN n, ⟨h.2.1.choose, h.2.1.choose_spec.1.drewN n, h.2.1.choose_spec.2⟩, h.2.2.1.drewN n, h.2.2.2.drewN n⟩
theorem zero_words : WC (room []) = List.replicate 64 (Value.int .u32 0) := by rfl
theorem sched_start (w : World) (l : List UInt8) :
    SchedAt w (((w.alloc (.cells (BC l).toArray 73)).alloc (.cells (List.replicate 64 (Value.int .u32 0)).toArray 99)).alloc (.cells (List.replicate 64 (Value.int .u32 0)).toArray 99)) l 0 := by
  refine ⟨((Blk.new w _ (BC l)).alloc _).alloc _, ⟨List.replicate 64 (Value.int .u32 0), ?_, by simp⟩, ?_, (((Only.refl _ _).alloc _).alloc _).alloc _⟩
  · have h := (Blk.new (w.alloc (.cells (BC l).toArray 73)) 99 (List.replicate 64 (Value.int .u32 0))).alloc (.cells (List.replicate 64 (Value.int .u32 0)).toArray 99)
    simpa using h
  · have h := Blk.new ((w.alloc (.cells (BC l).toArray 73)).alloc (.cells (List.replicate 64 (Value.int .u32 0)).toArray 99)) 99 (List.replicate 64 (Value.int .u32 0))
    rw [← zero_words] at h ⊢
    simpa [wordsTo] using h
theorem right_still (x : BitVec 32) (n : Nat) (w : World) (h1 : 1 ≤ n) (h2 : n ≤ 31) :
    Calls Tryd.prog 54 #[.int .u32 (wd x), .int .i64 (n : Int)] w fun e w' => e = .returned (.int .u32 (wd (rotr x n))) ∧ w' = w := (right_any x n w h1 h2).mono fun _ _ ⟨h, h'⟩ => ⟨h, h'.symm⟩
set_option maxHeartbeats 1600000 in
set_option maxRecDepth 100000 in
theorem sched_any (l : List UInt8) (w : World) (hl : l.length = 64) :
    Calls Tryd.prog 53 #[.agg (BC l).toArray] w fun e w' => e = .returned (.agg (WC (wordsTo l 64)).toArray) ∧ Only Nil w w' := by
  go_enter Tryd.func53, Tryd.ntmps53
  go_wp2
  go_loopw [4, 8] (fun _ i wr => ∃ t : Nat, t ≤ 16 ∧ i = .int .i64 t ∧ SchedAt w wr l t) (fun _ i _ => 16 - (intOf i).toNat)
  case atStart =>
    exact ⟨0, Nat.zero_le _, rfl, sched_start w l⟩
  case round =>
    obtain ⟨t, ht, rfl, hS⟩ := hrel
    by_cases hlt : t < 16
    · go_wp2
      have c0 := (hS.1).cell (4 * t)
      rw [BC_get _ _ (by omega)] at c0
      have c1 := (hS.1).cell (4 * t + 1)
      rw [BC_get _ _ (by omega)] at c1
      have c2 := (hS.1).cell (4 * t + 2)
      rw [BC_get _ _ (by omega)] at c2
      have c3 := (hS.1).cell (4 * t + 3)
      rw [BC_get _ _ (by omega)] at c3
      have e0 : IntKind.i64.wrap (4 * (t : Int)) = 4 * (t : Int) := IntWalk.i64_in _ (by omega)
      have e1 : IntKind.i64.wrap (4 * (t : Int) + 1) = 4 * (t : Int) + 1 := IntWalk.i64_in _ (by omega)
      have e2 : IntKind.i64.wrap (4 * (t : Int) + 2) = 4 * (t : Int) + 2 := IntWalk.i64_in _ (by omega)
      have e3 : IntKind.i64.wrap (4 * (t : Int) + 3) = 4 * (t : Int) + 3 := IntWalk.i64_in _ (by omega)
      have f0 : (4 * (t : Int)).toNat = 4 * t := by omega
      have f1 : (4 * (t : Int) + 1).toNat = 4 * t + 1 := by omega
      have f2 : (4 * (t : Int) + 2).toNat = 4 * t + 2 := by omega
      have f3 : (4 * (t : Int) + 3).toNat = 4 * t + 3 := by omega
      have g0 : 0 ≤ 4 * (t : Int) ∧ 4 * (t : Int) < 64 := by omega
      have g1 : 0 ≤ 4 * (t : Int) + 1 ∧ 4 * (t : Int) + 1 < 64 := by omega
      have g2 : 0 ≤ 4 * (t : Int) + 2 ∧ 4 * (t : Int) + 2 < 64 := by omega
      have g3 : 0 ≤ 4 * (t : Int) + 3 ∧ 4 * (t : Int) + 3 < 64 := by omega
      have g4 : (t : Int) < 64 := by omega
      have d4 : wr.drew.cell? ⟨w.heap.size + 1 + 1, t, none⟩ = some (.int .u32 (wd ((room (wordsTo l t)).getD t 0))) := by
        rw [hS.2.2.1.drew.cell, WC_get _ _ (by rw [room_length _ (by rw [wordsTo_length]; omega)]; omega)]
      have d5 : wr.drew.frozen? ⟨w.heap.size + 1 + 1, t, none⟩ = false := hS.2.2.1.drew.free t
      have HS := Lib.hid hS
      clear hS
      go_still_tail 31, (by kernel_rfl)
      change wpList _ _ _ _ _ wr.drew
      generalize hw2 : wr.drew = w2 at *
      have HW := Lib.hid hw2
      clear hw2 c0 c1 c2 c3
      go_wp2
      go_roundw
      case rel => exact ⟨t + 1, by omega, by go_num, by have := sched_low HS.out hlt; rw [HW.out] at this; simpa [packAt, pack] using this⟩
      case measure => simp [intOf]; omega
    · have H16 := Lib.hid (show t = 16 by omega)
      go_wp2
      go_loopw [5] (fun i wr2 => ∃ t : Nat, 16 ≤ t ∧ t ≤ 64 ∧ i = .int .i64 t ∧ SchedAt w wr2 l t) (fun i _ => 64 - (intOf i).toNat)
      case atStart => exact ⟨16, by omega, by omega, rfl, by rw [H16.out] at hS; exact hS⟩
      case round =>
        clear hS
        rename_i wr0 _ _ _ wr
        obtain ⟨t, ht1, ht2, rfl, hS⟩ := hrel
        by_cases hlt : t < 64
        · have hl2 : (room (wordsTo l t)).length = 64 := room_length _ (by rw [wordsTo_length]; omega)
          have c2 := (hS.2.2.1).cell (t - 2)
          rw [WC_get _ _ (by omega), room_words l t _ (by omega)] at c2
          have c7 := (hS.2.2.1).cell (t - 7)
          rw [WC_get _ _ (by omega), room_words l t _ (by omega)] at c7
          have c15 := (hS.2.2.1).cell (t - 15)
          rw [WC_get _ _ (by omega), room_words l t _ (by omega)] at c15
          have c16 := (hS.2.2.1).cell (t - 16)
          rw [WC_get _ _ (by omega), room_words l t _ (by omega)] at c16
          have hx : next (wordsTo l t) t = nextOf ((wordsTo l t).getD (t - 2) 0) ((wordsTo l t).getD (t - 7) 0) ((wordsTo l t).getD (t - 15) 0) ((wordsTo l t).getD (t - 16) 0) := rfl
          generalize (wordsTo l t).getD (t - 2) 0 = x2 at *
          generalize (wordsTo l t).getD (t - 7) 0 = x7 at *
          generalize (wordsTo l t).getD (t - 15) 0 = x15 at *
          generalize (wordsTo l t).getD (t - 16) 0 = x16 at *
          have HX := Lib.hid hx
          have HS := Lib.hid hS
          have H2 := Lib.hid hl2
          clear hx hS hl2
          have e2 : IntKind.i64.wrap ((t : Int) - 2) = (t : Int) - 2 := IntWalk.i64_in _ (by omega)
          have e7 : IntKind.i64.wrap ((t : Int) - 7) = (t : Int) - 7 := IntWalk.i64_in _ (by omega)
          have e15 : IntKind.i64.wrap ((t : Int) - 15) = (t : Int) - 15 := IntWalk.i64_in _ (by omega)
          have e16 : IntKind.i64.wrap ((t : Int) - 16) = (t : Int) - 16 := IntWalk.i64_in _ (by omega)
          have f2 : ((t : Int) - 2).toNat = t - 2 := by omega
          have f7 : ((t : Int) - 7).toNat = t - 7 := by omega
          have f15 : ((t : Int) - 15).toNat = t - 15 := by omega
          have f16 : ((t : Int) - 16).toNat = t - 16 := by omega
          have g2 : 0 ≤ (t : Int) - 2 ∧ (t : Int) - 2 < 64 := by omega
          have g7 : 0 ≤ (t : Int) - 7 ∧ (t : Int) - 7 < 64 := by omega
          have g15 : 0 ≤ (t : Int) - 15 ∧ (t : Int) - 15 < 64 := by omega
          have g16 : 0 ≤ (t : Int) - 16 ∧ (t : Int) - 16 < 64 := by omega
          have k2 : (2 : Int) ≤ (t : Int) := by omega
          have k7 : (7 : Int) ≤ (t : Int) := by omega
          have k15 : (15 : Int) ≤ (t : Int) := by omega
          have k16 : (16 : Int) ≤ (t : Int) := by omega
          have g4 : (t : Int) < 64 := by omega
          go_wp2
          go_quiet (fail)
          go_wp2
          have q7 : (wr.drewN nq).cell? { block := w.heap.size + 1 + 1, off := t - 7 } = some (Value.int IntKind.u32 (wd x7)) := c7
          have q16 : (wr.drewN nq).cell? { block := w.heap.size + 1 + 1, off := t - 16 } = some (Value.int IntKind.u32 (wd x16)) := c16
          have HQ := Lib.hid (sched_drewN HS.out nq)
          clear c2 c7 c15 c16 HS
          generalize wr.drewN nq = wq at *
          have d4 : wq.drew.cell? ⟨w.heap.size + 1 + 1, t, none⟩ = some (.int .u32 (wd ((room (wordsTo l t)).getD t 0))) := by
            have := HQ.out.2.2.1.cell t
            rw [WC_get _ _ (by rw [H2.out]; omega)] at this
            exact this
          have d5 : wq.drew.frozen? ⟨w.heap.size + 1 + 1, t, none⟩ = false := HQ.out.2.2.1.free t
          go_still_tail 29, (by kernel_rfl)
          still_call (right_still x2 17 _ (by omega) (by omega))
          repeat still_step
          still_call (right_still x2 19 _ (by omega) (by omega))
          repeat still_step
          still_call (right_still x15 7 _ (by omega) (by omega))
          repeat still_step
          still_call (right_still x15 18 _ (by omega) (by omega))
          repeat still_step
          refine wpStill_nil ?_
          change wpList _ _ _ _ _ wq.drew
          generalize hw2 : wq.drew = w2 at *
          have HW := Lib.hid hw2
          clear hw2 q7 q16
          go_wp2
          go_roundw
          case rel =>
            refine ⟨t + 1, by omega, by omega, by go_num, ?_⟩
            exact sched_high HQ.out ht1 hlt ⟨1, HW.out.symm⟩ _ (by rw [HX.out]; rfl)
          case measure => simp [intOf]; omega
        · obtain rfl : t = 64 := by omega
          rw [SchedAt, room_full _ (wordsTo_length l 64)] at hS
          obtain ⟨_, ⟨z, hz, hzl⟩, h3, h4⟩ := hS
          have hn : (WC (wordsTo l 64)).toArray.size = 64 := by simp [WC_length, wordsTo_length]
          go_wp2_with (first
            | ((with_reducible show wpList _ _ _ (Oper.mk _ (.load _ _) _ _ _ _ :: _) _ _); refine wpList_load_row rfl 99 (.tmp 3) rfl (w.heap.size + 1 + 1) rfl 99 (WC (wordsTo l 64)).toArray (0, 0) _ h3 Tryd.underlying99 rfl (by rw [hn]; kernel_rfl) ?_)
            | ((with_reducible show wpList _ _ _ (Oper.mk _ (.store _ _ _) _ _ _ _ :: _) _ _); refine wpList_store_row rfl 99 (.tmp 2) (.tmp 84) rfl (w.heap.size + 1) (WC (wordsTo l 64)).toArray rfl rfl _ _ hz (by rw [hn]; kernel_rfl) (by rw [hn]; simp [hzl]) (all_oneCell_toArray (WC_one _)) ?_))
          refine bodyPost_ret (results_cell_row rfl _ _ (w.heap.size + 1) 99 (WC (wordsTo l 64)).toArray (0, 0) _ rfl (setRow_heap _ _ _ _ _ _ hz) Tryd.underlying99 rfl (by rw [hn]; kernel_rfl)) rfl ⟨rfl, h4.setRow (.inr (by omega)) _⟩
end Go.Proofs.YthkongkbefpilaaDoor
