/-
  The walks of digest.half, digest.Hex, digest.Unhex and of the reference's digit, half, Hex, Unhex.
-/
import Derived.Test.YthkongkbefpilaaDoorDig6
import Derived.Test.YthkongkbefpilaaDoorHex
namespace Go.Proofs.YthkongkbefpilaaDoor
open Go.RowKit Sha
theorem by8_eq {c : UInt8} {n : Int} (h : (c.toNat : Int) = n) : by8 c = n := h
/-- What the two halves share: the tests on a byte, each decided. -/
theorem half_cases (c : UInt8) :
    (48 ≤ by8 c ∧ by8 c ≤ 57 ∧ IntKind.u8.wrap (by8 c - 48) = by8 (halfV c) ∧ isd c = true) ∨
    (57 < by8 c ∧ 97 ≤ by8 c ∧ by8 c ≤ 102 ∧ IntKind.u8.wrap (by8 c - 97) = by8 c - 97 ∧ IntKind.u8.wrap (by8 c - 97 + 10) = by8 (halfV c) ∧ isd c = true) ∨
    (by8 c < 48 ∧ halfV c = 0 ∧ isd c = false) ∨ (57 < by8 c ∧ by8 c < 97 ∧ halfV c = 0 ∧ isd c = false) ∨ (102 < by8 c ∧ halfV c = 0 ∧ isd c = false) := by
  have hc := c.toNat_lt
  have hv : (halfV c).toNat = if 48 ≤ c.toNat ∧ c.toNat ≤ 57 then c.toNat - 48 else if 97 ≤ c.toNat ∧ c.toNat ≤ 102 then c.toNat - 87 else 0 := Sha.toNat_ofNat _ (by (repeat' split) <;> omega)
  have hz : halfV c = 0 ↔ (halfV c).toNat = 0 := ⟨fun h => by rw [h]; rfl, fun h => UInt8.toNat_inj.1 h⟩
  simp only [isd, IntKind.wrap_u8, by8, hz]
  by_cases h1 : 48 ≤ c.toNat ∧ c.toNat ≤ 57
  · rw [if_pos h1] at hv
    refine .inl ⟨by omega, by omega, by omega, by simp [h1]⟩
  · rw [if_neg h1] at hv
    by_cases h2 : 97 ≤ c.toNat ∧ c.toNat ≤ 102
    · rw [if_pos h2] at hv
      refine .inr (.inl ⟨by omega, by omega, by omega, by omega, by omega, by simp [h2]⟩)
    · rw [if_neg h2] at hv
      have hd : (decide (48 ≤ c.toNat) && decide (c.toNat ≤ 57) || decide (97 ≤ c.toNat) && decide (c.toNat ≤ 102)) = false := by
        simp
        omega
      rw [hd]
      by_cases h3 : c.toNat < 48
      · exact .inr (.inr (.inl ⟨by omega, hv, rfl⟩))
      · by_cases h4 : c.toNat < 97
        · exact .inr (.inr (.inr (.inl ⟨by omega, by omega, hv, rfl⟩)))
        · exact .inr (.inr (.inr (.inr ⟨by omega, hv, rfl⟩)))
end Go.Proofs.YthkongkbefpilaaDoor
