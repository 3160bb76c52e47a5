/-
  The reference's hold (slipwayref19): New, where it answers nil.
-/
import Derived.Test.YthkongkbefpilaaDoorHu
namespace Go.Proofs.YthkongkbefpilaaDoor
set_option maxRecDepth 100000
open Go.RowKit Sha

theorem rNew_none (most : Int) (want : List UInt8) (hm : most < 0 ∨ 16777216 < most) (w : World) :
    Calls Tryd.prog 13 #[.int .i64 most, .agg (BC want).toArray] w fun e w' => e = .returned (.pointer none) ∧ Only Nil w w' := by
  go_enter Tryd.func13, Tryd.ntmps13
  go_wp2
  all_goals go_ret
  all_goals exact ⟨rfl, (Only.refl _ _).alloc _⟩
theorem rNew_fin (most : Int) (want : List UInt8) (hw : want.length = 32) (h0 : 0 ≤ most) (hm : most ≤ 16777216) {w w1 : World} {B : Nat} (hB : B ≤ w.heap.size) (h1 : Only Nil w w1) {w2 : World} {x : Nat} (hx : w1.heap.size = x)
    (h2 : w2 = w1.alloc (.cells ((⟨[], most, want, false⟩ : HS).rcells (.slice none 0 0)).toArray 59)) :
    IsRef B w2 (fun k => w.heap.size ≤ k ∧ k < w2.heap.size) x ⟨[], most, want, false⟩ ∧ Only Nil w w2 ∧ w.heap.size ≤ x := by
  subst hx
  have ho : Only Nil w1 w2 := h2 ▸ (Only.refl _ _).alloc _
  have hb : Blk w2 w1.heap.size 59 ((⟨[], most, want, false⟩ : HS).rcells (.slice none 0 0)) := h2 ▸ Blk.new w1 _ _
  exact ⟨⟨⟨.slice none 0 0, hb, ⟨rfl, .inl ⟨rfl, rfl⟩⟩, ⟨⟨h1.size, hb.lt⟩, fun k hk => by cases hk⟩, ⟨hw, by simpa using h0, hm⟩⟩, fun k hk => ⟨Nat.le_trans hB hk.1, hk.2⟩, Nat.le_trans hB (Nat.le_trans h1.size ho.size)⟩, h1.then ho, h1.size⟩
set_option maxHeartbeats 1600000 in
theorem rNew_some (most : Int) (want : List UInt8) (hw : want.length = 32) (h0 : 0 ≤ most) (hm : most ≤ 16777216) (w : World) (B : Nat) (hB : B ≤ w.heap.size) :
    Calls Tryd.prog 13 #[.int .i64 most, .agg (BC want).toArray] w fun e w' => ∃ x, e = .returned (.pointer (some ⟨x, 0, none⟩)) ∧ IsRef B w' (fun k => w.heap.size ≤ k ∧ k < w'.heap.size) x ⟨[], most, want, false⟩ ∧ Only Nil w w' ∧ w.heap.size ≤ x := by
  rcases want with _ | ⟨b0, want⟩
  · simp at hw
  rcases want with _ | ⟨b1, want⟩
  · simp at hw
  rcases want with _ | ⟨b2, want⟩
  · simp at hw
  rcases want with _ | ⟨b3, want⟩
  · simp at hw
  rcases want with _ | ⟨b4, want⟩
  · simp at hw
  rcases want with _ | ⟨b5, want⟩
  · simp at hw
  rcases want with _ | ⟨b6, want⟩
  · simp at hw
  rcases want with _ | ⟨b7, want⟩
  · simp at hw
  rcases want with _ | ⟨b8, want⟩
  · simp at hw
  rcases want with _ | ⟨b9, want⟩
  · simp at hw
  rcases want with _ | ⟨b10, want⟩
  · simp at hw
  rcases want with _ | ⟨b11, want⟩
  · simp at hw
  rcases want with _ | ⟨b12, want⟩
  · simp at hw
  rcases want with _ | ⟨b13, want⟩
  · simp at hw
  rcases want with _ | ⟨b14, want⟩
  · simp at hw
  rcases want with _ | ⟨b15, want⟩
  · simp at hw
  rcases want with _ | ⟨b16, want⟩
  · simp at hw
  rcases want with _ | ⟨b17, want⟩
  · simp at hw
  rcases want with _ | ⟨b18, want⟩
  · simp at hw
  rcases want with _ | ⟨b19, want⟩
  · simp at hw
  rcases want with _ | ⟨b20, want⟩
  · simp at hw
  rcases want with _ | ⟨b21, want⟩
  · simp at hw
  rcases want with _ | ⟨b22, want⟩
  · simp at hw
  rcases want with _ | ⟨b23, want⟩
  · simp at hw
  rcases want with _ | ⟨b24, want⟩
  · simp at hw
  rcases want with _ | ⟨b25, want⟩
  · simp at hw
  rcases want with _ | ⟨b26, want⟩
  · simp at hw
  rcases want with _ | ⟨b27, want⟩
  · simp at hw
  rcases want with _ | ⟨b28, want⟩
  · simp at hw
  rcases want with _ | ⟨b29, want⟩
  · simp at hw
  rcases want with _ | ⟨b30, want⟩
  · simp at hw
  rcases want with _ | ⟨b31, want⟩
  · simp at hw
  obtain rfl : want = [] := List.eq_nil_of_length_eq_zero (by simp only [List.length_cons] at hw; omega)
  clear hw
  show Calls _ _ #[.int .i64 most, .agg #[.int .u8 (by8 b0), .int .u8 (by8 b1), .int .u8 (by8 b2), .int .u8 (by8 b3), .int .u8 (by8 b4), .int .u8 (by8 b5), .int .u8 (by8 b6), .int .u8 (by8 b7), .int .u8 (by8 b8), .int .u8 (by8 b9), .int .u8 (by8 b10), .int .u8 (by8 b11), .int .u8 (by8 b12), .int .u8 (by8 b13), .int .u8 (by8 b14), .int .u8 (by8 b15), .int .u8 (by8 b16), .int .u8 (by8 b17), .int .u8 (by8 b18), .int .u8 (by8 b19), .int .u8 (by8 b20), .int .u8 (by8 b21), .int .u8 (by8 b22), .int .u8 (by8 b23), .int .u8 (by8 b24), .int .u8 (by8 b25), .int .u8 (by8 b26), .int .u8 (by8 b27), .int .u8 (by8 b28), .int .u8 (by8 b29), .int .u8 (by8 b30), .int .u8 (by8 b31)]] _ _
  obtain ⟨n, hn⟩ : ∃ b, w.heap.size = b := ⟨_, rfl⟩
  have d1 : decide (most < 0) = false := by simp; omega
  have d2 : decide (16777216 < most) = false := by simp; omega
  have HB := Lib.hid (show Blk (w.alloc (.cells #[.int .u8 (by8 b0), .int .u8 (by8 b1), .int .u8 (by8 b2), .int .u8 (by8 b3), .int .u8 (by8 b4), .int .u8 (by8 b5), .int .u8 (by8 b6), .int .u8 (by8 b7), .int .u8 (by8 b8), .int .u8 (by8 b9), .int .u8 (by8 b10), .int .u8 (by8 b11), .int .u8 (by8 b12), .int .u8 (by8 b13), .int .u8 (by8 b14), .int .u8 (by8 b15), .int .u8 (by8 b16), .int .u8 (by8 b17), .int .u8 (by8 b18), .int .u8 (by8 b19), .int .u8 (by8 b20), .int .u8 (by8 b21), .int .u8 (by8 b22), .int .u8 (by8 b23), .int .u8 (by8 b24), .int .u8 (by8 b25), .int .u8 (by8 b26), .int .u8 (by8 b27), .int .u8 (by8 b28), .int .u8 (by8 b29), .int .u8 (by8 b30), .int .u8 (by8 b31)] 23)) n 23 [.int .u8 (by8 b0), .int .u8 (by8 b1), .int .u8 (by8 b2), .int .u8 (by8 b3), .int .u8 (by8 b4), .int .u8 (by8 b5), .int .u8 (by8 b6), .int .u8 (by8 b7), .int .u8 (by8 b8), .int .u8 (by8 b9), .int .u8 (by8 b10), .int .u8 (by8 b11), .int .u8 (by8 b12), .int .u8 (by8 b13), .int .u8 (by8 b14), .int .u8 (by8 b15), .int .u8 (by8 b16), .int .u8 (by8 b17), .int .u8 (by8 b18), .int .u8 (by8 b19), .int .u8 (by8 b20), .int .u8 (by8 b21), .int .u8 (by8 b22), .int .u8 (by8 b23), .int .u8 (by8 b24), .int .u8 (by8 b25), .int .u8 (by8 b26), .int .u8 (by8 b27), .int .u8 (by8 b28), .int .u8 (by8 b29), .int .u8 (by8 b30), .int .u8 (by8 b31)] from hn ▸ Blk.new w _ _)
  go_enter Tryd.func13, Tryd.ntmps13
  go_upto_region 3 with fail
  (try rw [hn])
  go_wp2_with ((with_reducible show wpList _ _ _ (Oper.mk _ (.load 23 _) _ _ _ _ :: _) _ _); refine wpList_load_row rfl 23 (.tmp 3) rfl n rfl 23 #[.int .u8 (by8 b0), .int .u8 (by8 b1), .int .u8 (by8 b2), .int .u8 (by8 b3), .int .u8 (by8 b4), .int .u8 (by8 b5), .int .u8 (by8 b6), .int .u8 (by8 b7), .int .u8 (by8 b8), .int .u8 (by8 b9), .int .u8 (by8 b10), .int .u8 (by8 b11), .int .u8 (by8 b12), .int .u8 (by8 b13), .int .u8 (by8 b14), .int .u8 (by8 b15), .int .u8 (by8 b16), .int .u8 (by8 b17), .int .u8 (by8 b18), .int .u8 (by8 b19), .int .u8 (by8 b20), .int .u8 (by8 b21), .int .u8 (by8 b22), .int .u8 (by8 b23), .int .u8 (by8 b24), .int .u8 (by8 b25), .int .u8 (by8 b26), .int .u8 (by8 b27), .int .u8 (by8 b28), .int .u8 (by8 b29), .int .u8 (by8 b30), .int .u8 (by8 b31)] (0, 0) _ HB.out Tryd.underlying23 rfl (by kernel_rfl) ?_)
  go_ret
  exact ⟨_, rfl, rNew_fin most [b0, b1, b2, b3, b4, b5, b6, b7, b8, b9, b10, b11, b12, b13, b14, b15, b16, b17, b18, b19, b20, b21, b22, b23, b24, b25, b26, b27, b28, b29, b30, b31] rfl h0 hm hB ((Only.refl Nil w).alloc (.cells #[.int .u8 (by8 b0), .int .u8 (by8 b1), .int .u8 (by8 b2), .int .u8 (by8 b3), .int .u8 (by8 b4), .int .u8 (by8 b5), .int .u8 (by8 b6), .int .u8 (by8 b7), .int .u8 (by8 b8), .int .u8 (by8 b9), .int .u8 (by8 b10), .int .u8 (by8 b11), .int .u8 (by8 b12), .int .u8 (by8 b13), .int .u8 (by8 b14), .int .u8 (by8 b15), .int .u8 (by8 b16), .int .u8 (by8 b17), .int .u8 (by8 b18), .int .u8 (by8 b19), .int .u8 (by8 b20), .int .u8 (by8 b21), .int .u8 (by8 b22), .int .u8 (by8 b23), .int .u8 (by8 b24), .int .u8 (by8 b25), .int .u8 (by8 b26), .int .u8 (by8 b27), .int .u8 (by8 b28), .int .u8 (by8 b29), .int .u8 (by8 b30), .int .u8 (by8 b31)] 23)) (by rw [World.size_alloc, hn]) rfl⟩
end Go.Proofs.YthkongkbefpilaaDoor
