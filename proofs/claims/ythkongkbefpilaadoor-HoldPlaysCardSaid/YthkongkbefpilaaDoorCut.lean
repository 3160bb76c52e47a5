/-
  Parts of a slice of bytes: s[:k], s[i:k], s[k:], and what they read as.
-/
import Derived.Test.YthkongkbefpilaaDoorDig17
namespace Go.Proofs.YthkongkbefpilaaDoor
open Go.RowKit Sha
theorem RB.cut {w : World} {A : Option Addr} {c : Nat} {bs : List UInt8} (h : RB w (.slice A bs.length c) bs) {i k : Nat} (hi : i ≤ k) (hk : k ≤ bs.length) : RB w (sliced A i k c 1) ((bs.take k).drop i) := by
  obtain ⟨A', c', e, hc, hr⟩ := h
  injection e with e1 e2 e3
  subst e1 e3
  have hl : ((bs.take k).drop i).length = k - i := by rw [List.length_drop, List.length_take]; omega
  unfold sliced
  by_cases hci : c = i
  · refine ⟨_, c - i, by rw [hl], by rw [hl]; omega, fun h0 => absurd h0 (by rw [hl]; omega)⟩
  · refine ⟨_, c - i, by rw [hl], by rw [hl]; omega, fun h0 => ?_⟩
    rw [hl] at h0
    obtain ⟨g, o, rfl, hcell⟩ := hr (by omega)
    refine ⟨g, o + i, ?_, fun j hj => ?_⟩
    · simp [hci, Addr.add_mid]
    · rw [hl] at hj
      rw [Nat.add_assoc, hcell (i + j) (by omega)]
      simp [List.getD, List.getElem?_take_of_lt (show i + j < k by omega)]
theorem slice_bytes_h {A : Option Addr} {n c k : Nat} (hk : k ≤ c) (W : World) : (Instr.slice 26 (.slice A n c) none (some (.int .i64 (k : Int))) none).run Tryd.prog W = .ok (sliced A 0 k c 1) W := by
  obtain ⟨ib, hib, _, hbs, _⟩ := info_parts info_byte
  have hel : Tryd.prog.elem 26 = 5 := by simp [Program.elem, Tryd.underlying26]
  rw [run_slice_h W 26 A n c (by rw [hel]; exact Tryd.underlying26) .i64 k (by omega) (by omega), hel]
  simp [sizeOf, typeInfo, hib, hbs, Result.andThen]
theorem slice_bytes_l {A : Option Addr} {n c k : Nat} (hk : k ≤ n) (W : World) : (Instr.slice 26 (.slice A n c) (some (.int .i64 (k : Int))) none none).run Tryd.prog W = .ok (sliced A k n c 1) W := by
  obtain ⟨ib, hib, _, hbs, _⟩ := info_parts info_byte
  have hel : Tryd.prog.elem 26 = 5 := by simp [Program.elem, Tryd.underlying26]
  rw [run_slice_l W 26 A n c (by rw [hel]; exact Tryd.underlying26) .i64 k (by omega) (by omega), hel]
  simp [sizeOf, typeInfo, hib, hbs, Result.andThen]
theorem slice_bytes_lh {A : Option Addr} {n c i k : Nat} (hi : i ≤ k) (hk : k ≤ c) (W : World) : (Instr.slice 26 (.slice A n c) (some (.int .i64 (i : Int))) (some (.int .i64 (k : Int))) none).run Tryd.prog W = .ok (sliced A i k c 1) W := by
  obtain ⟨ib, hib, _, hbs, _⟩ := info_parts info_byte
  have hel : Tryd.prog.elem 26 = 5 := by simp [Program.elem, Tryd.underlying26]
  rw [run_slice_lh W 26 A n c (by rw [hel]; exact Tryd.underlying26) .i64 .i64 i k (by omega) (by omega) (by omega), hel]
  simp [sizeOf, typeInfo, hib, hbs, Result.andThen]
end Go.Proofs.YthkongkbefpilaaDoor
