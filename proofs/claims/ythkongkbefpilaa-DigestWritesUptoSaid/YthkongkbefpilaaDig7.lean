/-
  The walks of digest.half, digest.Hex, digest.Unhex and of the reference's digit, half, Hex, Unhex.
-/
import Derived.Test.YthkongkbefpilaaDig6
import Derived.Test.YthkongkbefpilaaHex
namespace Go.Proofs.Ythkongkbefpilaa
open Go.RowKit Sha

/-! ## Digits -/
theorem by8_eq {c : UInt8} {n : Int} (h : (c.toNat : Int) = n) : by8 c = n := h
theorem digit_any (c : UInt8) (w : World) (h : c.toNat < 16) : Calls Try.prog 31 #[.int .u8 (by8 c)] w fun e w' => e = .returned (.int .u8 (by8 (hexd c))) ∧ w = w' := by
  have hh := hexd_toNat c h
  by_cases h10 : c.toNat < 10
  · rw [if_pos h10] at hh
    have e1 : IntKind.u8.wrap (48 + by8 c) = by8 (hexd c) := by rw [IntKind.wrap_u8]; unfold by8; omega
    have h1 : by8 c < 10 := by unfold by8; omega
    clear hh h h10
    go_enter Try.func31, Try.ntmps31
    go_wp2
    go_ret
    exact ⟨rfl, rfl⟩
  · rw [if_neg h10] at hh
    have e1 : IntKind.u8.wrap (IntKind.u8.wrap (97 + by8 c) - 10) = by8 (hexd c) := by rw [IntKind.wrap_u8, IntKind.wrap_u8]; unfold by8; omega
    have e2 : IntKind.u8.wrap (97 + by8 c) = 97 + by8 c := by rw [IntKind.wrap_u8]; unfold by8; omega
    rw [e2] at e1
    have h1 : ¬ (by8 c < 10) := by unfold by8; omega
    clear hh h h10
    go_enter Try.func31, Try.ntmps31
    go_wp2
    go_ret
    exact ⟨rfl, rfl⟩
/-- What the two halves share: the tests on a byte, each decided. -/
theorem half_cases (c : UInt8) :
    (48 ≤ by8 c ∧ by8 c ≤ 57 ∧ IntKind.u8.wrap (by8 c - 48) = by8 (halfV c) ∧ isd c = true) ∨
    (57 < by8 c ∧ 97 ≤ by8 c ∧ by8 c ≤ 102 ∧ IntKind.u8.wrap (by8 c - 97) = by8 c - 97 ∧ IntKind.u8.wrap (by8 c - 97 + 10) = by8 (halfV c) ∧ isd c = true) ∨
    (by8 c < 48 ∧ halfV c = 0 ∧ isd c = false) ∨ (57 < by8 c ∧ by8 c < 97 ∧ halfV c = 0 ∧ isd c = false) ∨ (102 < by8 c ∧ halfV c = 0 ∧ isd c = false) := by
  have hc := c.toNat_lt
  have hv : (halfV c).toNat = if 48 ≤ c.toNat ∧ c.toNat ≤ 57 then c.toNat - 48 else if 97 ≤ c.toNat ∧ c.toNat ≤ 102 then c.toNat - 87 else 0 := Sha.toNat_ofNat _ (by (repeat' split) <;> omega)
  have hz : halfV c = 0 ↔ (halfV c).toNat = 0 := ⟨fun h => by rw [h]; rfl, fun h => UInt8.toNat_inj.1 h⟩
  simp only [isd, IntKind.wrap_u8, by8, hz]
  by_cases h1 : 48 ≤ c.toNat ∧ c.toNat ≤ 57
  · rw [if_pos h1] at hv
    refine .inl ⟨by omega, by omega, by omega, by simp [h1]⟩
  · rw [if_neg h1] at hv
    by_cases h2 : 97 ≤ c.toNat ∧ c.toNat ≤ 102
    · rw [if_pos h2] at hv
      refine .inr (.inl ⟨by omega, by omega, by omega, by omega, by omega, by simp [h2]⟩)
    · rw [if_neg h2] at hv
      have hd : (decide (48 ≤ c.toNat) && decide (c.toNat ≤ 57) || decide (97 ≤ c.toNat) && decide (c.toNat ≤ 102)) = false := by
        simp
        omega
      rw [hd]
      by_cases h3 : c.toNat < 48
      · exact .inr (.inr (.inl ⟨by omega, hv, rfl⟩))
      · by_cases h4 : c.toNat < 97
        · exact .inr (.inr (.inr (.inl ⟨by omega, by omega, hv, rfl⟩)))
        · exact .inr (.inr (.inr (.inr ⟨by omega, hv, rfl⟩)))
set_option maxHeartbeats 400000 in
theorem half_any (c : UInt8) (w : World) : Calls Try.prog 30 #[.int .u8 (by8 c)] w fun e w' => e = .returned (.tuple #[.int .u8 (by8 (halfV c)), .bool (isd c)]) ∧ w = w' := by
  have z0 : by8 0 = 0 := rfl
  rcases half_cases c with ⟨h1, h2, h3, h4⟩ | ⟨h1, h2, h3, h4, h5, h6⟩ | ⟨h1, h2, h3⟩ | ⟨h1, h2, h3, h4⟩ | ⟨h1, h2, h3⟩
  · rw [h4]
    clear h4
    go_enter Try.func30, Try.ntmps30
    go_wp2
    go_ret2
    exact ⟨rfl, rfl⟩
  · rw [h6]
    clear h6
    go_enter Try.func30, Try.ntmps30
    go_wp2
    go_ret2
    exact ⟨rfl, rfl⟩
  all_goals
    first | rw [h3, h2] | rw [h4, h3]
    go_enter Try.func30, Try.ntmps30
    go_wp2
    go_ret2
    exact ⟨rfl, rfl⟩
set_option maxHeartbeats 400000 in
theorem rhalf_any (c : UInt8) (w : World) : Calls Try.prog 32 #[.int .u8 (by8 c)] w fun e w' => e = .returned (.tuple #[.int .u8 (by8 (halfV c)), .bool (isd c)]) ∧ w = w' := by
  have z0 : by8 0 = 0 := rfl
  rcases half_cases c with ⟨h1, h2, h3, h4⟩ | ⟨h1, h2, h3, h4, h5, h6⟩ | ⟨h1, h2, h3⟩ | ⟨h1, h2, h3, h4⟩ | ⟨h1, h2, h3⟩
  · rw [h4]
    clear h4
    go_enter Try.func32, Try.ntmps32
    go_wp2
    go_ret2
    exact ⟨rfl, rfl⟩
  · rw [h6]
    clear h6
    go_enter Try.func32, Try.ntmps32
    go_wp2
    go_ret2
    exact ⟨rfl, rfl⟩
  all_goals
    first | rw [h3, h2] | rw [h4, h3]
    go_enter Try.func32, Try.ntmps32
    go_wp2
    go_ret2
    exact ⟨rfl, rfl⟩
end Go.Proofs.Ythkongkbefpilaa
