/-
  HoldPlays: all that can be asked of a hold, at both (last).
-/
import Derived.Test.YthkongkbefpilaaDoorHz
namespace Go.Proofs.YthkongkbefpilaaDoor
set_option maxRecDepth 100000
open Go.RowKit Sha

section
variable {B : Nat} {a0 a1 : Addr} {W : World} {FH FX FK : Nat → Prop} {kb h x : Nat} {s : HS} {ls : List Ls}
set_option maxHeartbeats 1600000 in
theorem last_any (S0 : Set0 B a0 a1 W FH FX FK kb h x s ls) (hl : ls.length + 4 ≤ 50000000000) :
    Calls Tryd.prog 15 #[.pointer (some ⟨kb, 0, none⟩), .pointer (some ⟨h, 0, none⟩), .pointer (some ⟨x, 0, none⟩)] W fun e W' => e = .returned (.bool true) ∧ After B W FH FX FK kb h x 4 ls W' := by
  have H0 := Lib.hid S0
  clear S0
  go_enter Tryd.func15, Tryd.ntmps15
  go_wp2
  go_loopw [7] (fun i wr => ∃ j : Nat, j ≤ 4 ∧ i = .int .i64 ((j : Int) + 4) ∧ After B W FH FX FK kb h x j ls wr) (fun i _ => 8 - (intOf i).toNat)
  case atStart => exact ⟨0, by omega, rfl, _, _, _, _, _, AfterAt.nil H0.out⟩
  case round =>
    obtain ⟨j, hj, rfl, GH, GX, GK, s', ls', A⟩ := hrel
    by_cases hj4 : j < 4
    · have g1 : (j : Int) + 4 ≤ 7 := by omega
      have HS := Lib.hid (A.set0 H0.out (by have := A.len; omega))
      have HA := Lib.hid A
      clear A
      go_wp2_with (go_at_call 14; refine (step_any HS.out _ none 0 [] (RB.nil _ _ _) (by simp) (fun h => absurd h (by simp))).mono ?_; rintro e W2 ⟨rfl, KH, KX, KK, s2, ls2, A2⟩; have HA2 := Lib.hid A2; clear A2)
      go_roundw
      case rel => exact ⟨j + 1, by omega, by go_num, KH, KX, KK, s2, ls2, HA.out.then HA2.out⟩
      case measure => simp only [intOf]; omega
    · have hj5 : j = 4 := by omega
      subst hj5
      have g1 : ¬ ((4 : Nat) : Int) + 4 ≤ 7 := by omega
      have HA := Lib.hid A
      clear A
      go_wp2
      go_ret
      exact ⟨rfl, _, _, _, _, _, HA.out⟩
end
end Go.Proofs.YthkongkbefpilaaDoor
