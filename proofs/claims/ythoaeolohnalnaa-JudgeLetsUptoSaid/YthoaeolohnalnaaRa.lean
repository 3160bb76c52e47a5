/-
  The reference's words of a trace: last, fails, Held, Under, Over.
-/
import Derived.Test.YthoaeolohnalnaaJn
namespace Go.Proofs.Ythoaeolohnalnaa
open Go.RowKit

def lastR (x y : Int) (l : List Ev) : Nat → Int
  | 0 => -1
  | k + 1 => if (l.getD k ev0).kind = x ∨ (l.getD k ev0).kind = y then (k : Nat) else lastR x y l k
theorem lastR_bounds (x y : Int) (l : List Ev) : ∀ k, -1 ≤ lastR x y l k ∧ lastR x y l k < (k : Nat)
  | 0 => ⟨Int.le_refl _, by show (-1 : Int) < 0; decide⟩
  | k + 1 => by
    have ih := lastR_bounds x y l k
    unfold lastR
    split <;> constructor <;> omega
def failsR (l : List Ev) : Nat → Int
  | 0 => 0
  | k + 1 => if (l.getD k ev0).kind = 5 then failsR l k + 1 else failsR l k
theorem failsR_bounds (l : List Ev) : ∀ k, 0 ≤ failsR l k ∧ failsR l k ≤ (k : Nat)
  | 0 => ⟨Int.le_refl _, Int.le_refl _⟩
  | k + 1 => by
    have ih := failsR_bounds l k
    unfold failsR
    split <;> constructor <;> omega
def heldR (l : List Ev) : Option Ev :=
  if lastR 2 3 l l.length < 0 ∨ (l.getD (lastR 2 3 l l.length).toNat ev0).kind = 3 then none else some (l.getD (lastR 2 3 l l.length).toNat ev0)
def underR (l : List Ev) : Bool := decide (0 ≤ lastR 4 4 l l.length) && decide (lastR 5 6 l l.length < lastR 4 4 l l.length)
def overR (l : List Ev) : Bool := decide (0 ≤ lastR 6 7 l l.length)
theorem Evs.at {W : World} {A : Option Addr} {c : Nat} {l : List Ev} (h : Evs W (.slice A l.length c) l) {k : Nat} (hk : k < l.length) :
    ∃ g o, A = some ⟨g, o, none⟩ ∧ (∀ i, i < 7 → W.cell? ⟨g, o + k * 7 + i, none⟩ = (l.getD k ev0).cells[i]?) ∧ (l.getD k ev0).ok W := by
  obtain ⟨A', c', e, hc, hr⟩ := h
  injection e with e1 _ e3
  subst e1 e3
  obtain ⟨g, o, rfl, hcell⟩ := hr (by omega)
  exact ⟨g, o, rfl, hcell k hk⟩
theorem Evs.form {W : World} {v : Value} {l : List Ev} (h : Evs W v l) : ∃ A c, v = .slice A l.length c ∧ l.length ≤ c := by
  obtain ⟨A, c, e, hc, _⟩ := h
  exact ⟨A, c, e, hc⟩
set_option maxHeartbeats 1600000 in
theorem last_any (x y : Int) (v : Value) (l : List Ev) (w : World) (hv : Evs w v l) (hn : l.length ≤ 1000000000000) :
    Calls Try.prog 48 #[v, .int .i64 x, .int .i64 y] w fun r w' => r = .returned (.int .i64 (lastR x y l l.length)) ∧ w = w' := by
  obtain ⟨A, c, rfl, hc⟩ := hv.form
  have HV := Lib.hid hv
  clear hv
  go_enter Try.func48, Try.ntmps48
  go_wp2
  go_loopw [7, 8] (fun a i wr => ∃ k : Nat, k ≤ l.length ∧ i = .int .i64 k ∧ a = .int .i64 (lastR x y l k) ∧ wr = w) (fun _ i _ => l.length - (intOf i).toNat)
  case atStart => exact ⟨0, Nat.zero_le _, rfl, rfl, rfl⟩
  case round =>
    obtain ⟨k, hk, rfl, rfl, rfl⟩ := hrel
    by_cases hlt : k < l.length
    · obtain ⟨g, o, rfl, hcell, _⟩ := HV.out.at hlt
      have q0 : wr.cell? ⟨g, o + k * 7, none⟩ = some (.int .i64 (l.getD k ev0).kind) := hcell 0 (by omega)
      have HS := Lib.hid (show lastR x y l (k + 1) = if (l.getD k ev0).kind = x ∨ (l.getD k ev0).kind = y then ((k : Nat) : Int) else lastR x y l k from rfl)
      clear hcell HV
      generalize (l.getD k ev0).kind = kind at *
      generalize lastR x y l k = s at *
      have g1 : (k : Int) < (l.length : Int) := by omega
      by_cases h1 : kind = x
      · have h1b : (kind == x) = true := by simp [h1]
        have hs := Lib.hid (show lastR x y l (k + 1) = (k : Nat) by rw [HS.out]; simp [h1])
        clear h1 HS
        go_wp2
        go_roundw
        case rel => exact ⟨k + 1, by omega, by go_num, by rw [hs.out], trivial⟩
        case measure => simp [intOf]; omega
      · have h1b : (kind == x) = false := by simp [h1]
        by_cases h2 : kind = y
        · have h2b : (kind == y) = true := by simp [h2]
          have hs := Lib.hid (show lastR x y l (k + 1) = (k : Nat) by rw [HS.out]; simp [h2])
          clear h1 h2 HS
          go_wp2
          go_roundw
          case rel => exact ⟨k + 1, by omega, by go_num, by rw [hs.out], trivial⟩
          case measure => simp [intOf]; omega
        · have h2b : (kind == y) = false := by simp [h2]
          have hs := Lib.hid (show lastR x y l (k + 1) = s by rw [HS.out]; simp [h1, h2])
          clear h1 h2 HS
          go_wp2
          go_roundw
          case rel => exact ⟨k + 1, by omega, by go_num, by rw [hs.out], trivial⟩
          case measure => simp [intOf]; omega
    · have g1 : ¬ (k : Int) < (l.length : Int) := by omega
      obtain rfl : k = l.length := by omega
      go_wp2
      go_ret
      exact ⟨rfl, rfl⟩
set_option maxHeartbeats 1600000 in
theorem fails_any (v : Value) (l : List Ev) (w : World) (hv : Evs w v l) (hn : l.length ≤ 1000000000000) :
    Calls Try.prog 56 #[v] w fun r w' => r = .returned (.int .i64 (failsR l l.length)) ∧ w = w' := by
  obtain ⟨A, c, rfl, hc⟩ := hv.form
  have HV := Lib.hid hv
  clear hv
  go_enter Try.func56, Try.ntmps56
  go_wp2
  go_loopw [3, 4] (fun a i wr => ∃ k : Nat, k ≤ l.length ∧ i = .int .i64 k ∧ a = .int .i64 (failsR l k) ∧ wr = w) (fun _ i _ => l.length - (intOf i).toNat)
  case atStart => exact ⟨0, Nat.zero_le _, rfl, rfl, rfl⟩
  case round =>
    obtain ⟨k, hk, rfl, rfl, rfl⟩ := hrel
    by_cases hlt : k < l.length
    · obtain ⟨g, o, rfl, hcell, _⟩ := HV.out.at hlt
      have q0 : wr.cell? ⟨g, o + k * 7, none⟩ = some (.int .i64 (l.getD k ev0).kind) := hcell 0 (by omega)
      have HS := Lib.hid (show failsR l (k + 1) = if (l.getD k ev0).kind = 5 then failsR l k + 1 else failsR l k from rfl)
      obtain ⟨f0, f1⟩ := failsR_bounds l k
      clear hcell HV
      generalize (l.getD k ev0).kind = kind at *
      generalize failsR l k = s at *
      have g1 : (k : Int) < (l.length : Int) := by omega
      by_cases h1 : kind = 5
      · subst h1
        have hs := Lib.hid (show failsR l (k + 1) = s + 1 by rw [HS.out]; simp)
        clear HS
        go_wp2
        go_roundw
        case rel => exact ⟨k + 1, by omega, by go_num, by rw [hs.out], trivial⟩
        case measure => simp [intOf]; omega
      · have hs := Lib.hid (show failsR l (k + 1) = s by rw [HS.out]; simp [h1])
        clear HS
        go_wp2
        go_roundw
        case rel => exact ⟨k + 1, by omega, by go_num, by rw [hs.out], trivial⟩
        case measure => simp [intOf]; omega
    · have g1 : ¬ (k : Int) < (l.length : Int) := by omega
      obtain rfl : k = l.length := by omega
      go_wp2
      go_ret
      exact ⟨rfl, rfl⟩
theorem under_any (v : Value) (l : List Ev) (w : World) (hv : Evs w v l) (hn : l.length ≤ 1000000000000) :
    Calls Try.prog 38 #[v] w fun r w' => r = .returned (.bool (underR l)) ∧ w = w' := by
  have h44 := last_any 4 4 v l w hv hn
  have h56 := last_any 5 6 v l w hv hn
  have HU := Lib.hid (show underR l = (decide (0 ≤ lastR 4 4 l l.length) && decide (lastR 5 6 l l.length < lastR 4 4 l l.length)) from rfl)
  generalize lastR 4 4 l l.length = i at *
  generalize lastR 5 6 l l.length = j at *
  clear hv
  go_enter Try.func38, Try.ntmps38
  go_upto_region 2 with (go_at_call 48; refine h44.mono ?_; rintro r w' ⟨rfl, rfl⟩)
  by_cases h0 : 0 ≤ i
  · by_cases h1 : j < i
    · go_wp2_with (go_at_call 48; refine h56.mono ?_; rintro r w' ⟨rfl, rfl⟩)
      go_ret
      exact ⟨by rw [HU.out]; simp [h0, h1], rfl⟩
    · go_wp2_with (go_at_call 48; refine h56.mono ?_; rintro r w' ⟨rfl, rfl⟩)
      go_ret
      exact ⟨by rw [HU.out]; simp [h0] <;> omega, rfl⟩
  · go_wp2_with (go_at_call 48; refine h56.mono ?_; rintro r w' ⟨rfl, rfl⟩)
    go_ret
    exact ⟨by rw [HU.out]; simp <;> omega, rfl⟩
theorem over_any (v : Value) (l : List Ev) (w : World) (hv : Evs w v l) (hn : l.length ≤ 1000000000000) :
    Calls Try.prog 37 #[v] w fun r w' => r = .returned (.bool (overR l)) ∧ w = w' := by
  have h67 := last_any 6 7 v l w hv hn
  have HU := Lib.hid (show overR l = decide (0 ≤ lastR 6 7 l l.length) from rfl)
  generalize lastR 6 7 l l.length = i at *
  clear hv
  go_enter Try.func37, Try.ntmps37
  go_wp2_with (go_at_call 48; refine h67.mono ?_; rintro r w' ⟨rfl, rfl⟩)
  go_ret
  exact ⟨by rw [HU.out]; rfl, rfl⟩
end Go.Proofs.Ythoaeolohnalnaa
