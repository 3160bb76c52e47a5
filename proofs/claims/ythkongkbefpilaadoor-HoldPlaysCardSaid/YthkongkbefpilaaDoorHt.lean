/-
  The reference's hold (slipwayref19): Sum.
-/
import Derived.Test.YthkongkbefpilaaDoorHs
namespace Go.Proofs.YthkongkbefpilaaDoor
set_option maxRecDepth 100000
open Go.RowKit Sha

theorem parts_row1 {w : World} {v : Value} {bs : List UInt8} (h : RB w v bs) (k : Nat) (t : TypeId) (hk : w.heap.size = k) : Parts (w.alloc (.cells #[v] t)) (.slice (some ⟨k, 0, none⟩) 1 1) [v] [bs] := by
  subst hk
  refine ⟨⟨_, 1, rfl, Nat.le_refl _, fun _ => ⟨_, 0, rfl, fun j hj => ?_⟩⟩, rfl, fun j hj => ?_⟩
  · have hj0 : j = 0 := by simp at hj; omega
    subst hj0
    exact (Blk.new w t [v]).cell 0
  · have hj0 : j = 0 := by simp at hj; omega
    subst hj0
    exact h.alloc _
section
variable {B : Nat} {w : World} {F : Nat → Prop} {x : Nat} {s : HS}
set_option maxHeartbeats 1600000 in
theorem hrsum_any (h : IsRef B w F x s) : Calls Tryd.prog 31 #[.pointer (some ⟨x, 0, none⟩)] w fun e w' => e = .returned (.agg (BC (sha s.img)).toArray) ∧ Only Nil w w' := by
  obtain ⟨v, hA⟩ := h.at'
  obtain ⟨A, c, rfl⟩ := own_slice1 hA.row
  have hr := hA.ok.room
  have hm := hA.ok.most
  have HA := Lib.hid hA
  clear hA h
  have hz : (BC (sha s.img)).toArray.size = 32 := by rw [List.size_toArray, BC_length, sha_length]
  obtain ⟨o, ho⟩ : ∃ b, w.heap.size = b := ⟨_, rfl⟩
  go_enter Tryd.func31, Tryd.ntmps31
  go_upto_region 1 with fail
  (try rw [ho])
  refine wp_gen (fun W => RefAt B W F x (.slice A s.img.length c) s ∧ Only Nil w W ∧ Blk W o 23 (BC (List.replicate 32 0))) ⟨HA.out.only ((Only.refl Nil _).alloc _) fun _ _ e => e, (Only.refl Nil _).alloc _, ho ▸ Blk.new w _ (BC (List.replicate 32 0))⟩ ?_
  intro w1 ⟨hA1, hO1, hB1⟩
  have c0 := hA1.c0
  have HP := Lib.hid (parts_row1 (OwnB.reads' hA1.row) w1.heap.size 26 rfl)
  have HO := Lib.hid hO1
  have HB := Lib.hid hB1
  clear hA1 hO1 hB1 HA
  go_wp2_with (first
    | (go_at_call 20; refine (rsum_any _ _ [s.img] _ HP.out (by simp; omega) (by simp)).mono ?_; rintro e w3 ⟨rfl, ho3⟩)
    | ((with_reducible show wpList _ _ _ (Oper.mk _ (.store 23 _ _) _ _ _ _ :: _) _ _); refine wpList_store_row rfl 23 (.tmp 2) (.tmp 8) rfl o (BC (sha s.img)).toArray rfl rfl _ _ (ho3.blk (HB.out.alloc _) id) (by rw [hz]; kernel_rfl) (by rw [hz]; rfl) (all_oneCell_toArray (BC_one _)) ?_))
  refine bodyPost_ret (results_cell_row rfl _ _ o 23 (BC (sha s.img)).toArray (0, 0) _ rfl (setRow_heap _ _ _ _ _ _ (ho3.blk (HB.out.alloc _) id)) Tryd.underlying23 rfl (by rw [hz]; kernel_rfl)) rfl ⟨rfl, ((HO.out.alloc _).then ho3).setRow (.inr (by omega)) _⟩
end
end Go.Proofs.YthkongkbefpilaaDoor
