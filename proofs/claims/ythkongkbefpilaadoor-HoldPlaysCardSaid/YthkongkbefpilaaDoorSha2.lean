/-
  The bytes behind the last one, while they are written; more of the digest in plain Lean.
-/
import Derived.Test.YthkongkbefpilaaDoorSha
namespace Go.Proofs.YthkongkbefpilaaDoor.Sha
/-- .. with i of the last eight bytes written. -/
def tailTo (n i : Nat) : List UInt8 := 0x80 :: List.replicate (zeros n) 0 ++ ((size8 n).take i ++ List.replicate (8 - i) 0)
theorem tailTo_length (n i : Nat) (h : i ≤ 8) : (tailTo n i).length = zeros n + 9 := by simp [tailTo, size8]; omega
theorem tailTo_zero (n : Nat) : tailTo n 0 = 0x80 :: List.replicate (zeros n + 8) 0 := by
  unfold tailTo
  rw [List.take_zero, List.nil_append, List.cons_append, List.replicate_append_replicate]
theorem tailTo_all (n : Nat) : tailTo n 8 = tail n := by
  unfold tailTo tail
  rw [List.take_of_length_le (by simp [size8])]
  simp
theorem size8_get (n i : Nat) (h : i < 8) : (size8 n)[i]? = some (UInt8.ofNat (8 * n / 2 ^ (56 - 8 * i))) := by simp [size8, h]
theorem tailTo_set (n i : Nat) (h : i < 8) : (tailTo n i).set (1 + zeros n + i) (UInt8.ofNat (8 * n / 2 ^ (56 - 8 * i))) = tailTo n (i + 1) := by
  unfold tailTo
  obtain ⟨k, hk⟩ : ∃ k, 8 - i = k + 1 := ⟨8 - i - 1, by omega⟩
  have hl : ((0x80 : UInt8) :: List.replicate (zeros n) 0).length = 1 + zeros n := by simp; omega
  have ht : ((size8 n).take i).length = i := by simp [size8]; omega
  rw [List.set_append_right _ _ (by omega), hl, show 1 + zeros n + i - (1 + zeros n) = i by omega, List.set_append_right _ _ (by omega), ht, Nat.sub_self, hk, List.replicate_succ, List.set_cons_zero,
    show 8 - (i + 1) = k by omega, List.take_add_one, size8_get n i h]
  simp
end Go.Proofs.YthkongkbefpilaaDoor.Sha
