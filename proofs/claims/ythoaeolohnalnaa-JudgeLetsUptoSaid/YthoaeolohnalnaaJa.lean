/-
  The judge's small functions: a host's address, a frame's kind, the address that a frame says; the reference's alike.
-/
import Derived.Test.YthoaeolohnalnaaKit
namespace Go.Proofs.Ythoaeolohnalnaa
open Go.RowKit

def hostP (ip : Int) : Bool := decide (1 ≤ ip / 16777216) && decide (ip / 16777216 ≤ 223) && !decide (ip / 16777216 = 127)
theorem host_any (ip : Int) (w : World) : Calls Try.prog 60 #[.int .u32 ip] w fun e w' => e = .returned (.bool (hostP ip)) ∧ w = w' := by
  go_enter Try.func60, Try.ntmps60
  go_wp2
  all_goals go_ret
  all_goals exact ⟨by refine congrArg (fun b => Ending.returned (Value.bool b)) ?_; rw [Bool.eq_iff_iff]; simp [hostP]; omega, rfl⟩
theorem rhost_any (ip : Int) (w : World) (h0 : 0 ≤ ip) (h1 : ip < 4294967296) : Calls Try.prog 58 #[.int .u32 ip] w fun e w' => e = .returned (.bool (hostP ip)) ∧ w = w' := by
  have hd := Int.tdiv_eq_ediv_of_nonneg (b := 16777216) h0
  go_enter Try.func58, Try.ntmps58
  go_wp2
  all_goals go_ret
  all_goals exact ⟨by refine congrArg (fun b => Ending.returned (Value.bool b)) ?_; rw [Bool.eq_iff_iff]; simp [hostP]; omega, rfl⟩
theorem ishost_any (ip : Int) (w : World) (h0 : 0 ≤ ip) (h1 : ip < 4294967296) : Calls Try.prog 30 #[.int .u32 ip] w fun e w' => e = .returned (.bool (hostP ip)) ∧ w = w' := by
  have hd := Int.tdiv_eq_ediv_of_nonneg (b := 16777216) h0
  go_enter Try.func30, Try.ntmps30
  go_wp2
  all_goals go_ret
  all_goals exact ⟨by refine congrArg (fun b => Ending.returned (Value.bool b)) ?_; rw [Bool.eq_iff_iff]; simp [hostP]; omega, rfl⟩

/-! ## A frame's kind -/
def at8 (b : List UInt8) (i : Nat) : Int := by8 (b.getD i 0)
theorem at8_ge (b : List UInt8) (i : Nat) : 0 ≤ at8 b i := by8_ge _
theorem at8_lt (b : List UInt8) (i : Nat) : at8 b i < 256 := by8_lt _
def kindP (b : List UInt8) : Int := at8 b 12 * 256 + at8 b 13
theorem or_shift (k : IntKind) (m : Nat) (hk : ∀ a b : Int, bits .or k a b = k.wrap ((BitVec.ofInt m a ||| BitVec.ofInt m b).toNat : Int)) (x y : Nat) (hy : y < 256) (hx : x * 256 + y < 2 ^ m) (hw : k.wrap ((x : Int) * 256 + y) = (x : Int) * 256 + y) :
    bits .or k ((x : Int) * 256) (y : Int) = (x : Int) * 256 + y := by
  rw [hk, BitVec.toNat_or]
  have e1 : (BitVec.ofInt m ((x : Int) * 256)).toNat = x * 256 := by
    rw [show ((x : Int) * 256) = ((x * 256 : Nat) : Int) by omega, BitVec.ofInt_natCast, BitVec.toNat_ofNat, Nat.mod_eq_of_lt (Nat.lt_of_le_of_lt (Nat.le_add_right _ _) hx)]
  have e2 : (BitVec.ofInt m (y : Int)).toNat = y := by
    rw [BitVec.ofInt_natCast, BitVec.toNat_ofNat, Nat.mod_eq_of_lt (Nat.lt_of_le_of_lt (Nat.le_add_left _ _) hx)]
  have e3 : x * 256 ||| y = x * 256 + y := by
    have := Nat.shiftLeft_add_eq_or_of_lt (i := 8) (show y < 2 ^ 8 by omega) x
    rw [Nat.shiftLeft_eq] at this
    exact this.symm
  rw [e1, e2, e3]
  have : ((x * 256 + y : Nat) : Int) = (x : Int) * 256 + y := by omega
  rw [this]
  exact hw
theorem or_64 (x y : Int) (hx : 0 ≤ x) (hx2 : x < 256) (hy : 0 ≤ y) (hy2 : y < 256) : bits .or .i64 (x * 256) y = x * 256 + y := by
  obtain ⟨a, rfl⟩ := Int.eq_ofNat_of_zero_le hx
  obtain ⟨b, rfl⟩ := Int.eq_ofNat_of_zero_le hy
  exact or_shift .i64 64 (fun _ _ => rfl) a b (by omega) (by omega) (IntWalk.i64_in _ (by omega))
theorem or_32 (x y : Int) (hx : 0 ≤ x) (hx2 : x < 16777216) (hy : 0 ≤ y) (hy2 : y < 256) : bits .or .u32 (x * 256) y = x * 256 + y := by
  obtain ⟨a, rfl⟩ := Int.eq_ofNat_of_zero_le hx
  obtain ⟨b, rfl⟩ := Int.eq_ofNat_of_zero_le hy
  exact or_shift .u32 32 (fun _ _ => rfl) a b (by omega) (by omega) (by rw [IntKind.wrap_u32]; omega)
theorem kind_any (v : Value) (b : List UInt8) (w : World) (hb : RB w v b) (hl : 14 ≤ b.length) : Calls Try.prog 39 #[v] w fun e w' => e = .returned (.int .i64 (kindP b)) ∧ ∃ n, w' = w.drewN n := by
  obtain ⟨A, c, rfl, hc, hr⟩ := hb
  obtain ⟨g, o, rfl, hcell⟩ := hr (by omega)
  have c12 : w.cell? ⟨g, o + 12, none⟩ = some (.int .u8 (at8 b 12)) := hcell 12 (by omega)
  have c13 : w.cell? ⟨g, o + 13, none⟩ = some (.int .u8 (at8 b 13)) := hcell 13 (by omega)
  have hx := at8_ge b 12
  have hx2 := at8_lt b 12
  have hy := at8_ge b 13
  have hy2 := at8_lt b 13
  have ho := or_64 _ _ hx hx2 hy hy2
  have hk : kindP b = at8 b 12 * 256 + at8 b 13 := rfl
  generalize at8 b 12 = x at *
  generalize at8 b 13 = y at *
  have HK := Lib.hid hk
  clear hcell hr hk
  have hlen : (14 : Int) ≤ (b.length : Int) := by omega
  go_enter Try.func39, Try.ntmps39
  go_upto_region 1 with fail
  go_quiet (fail)
  go_wp2
  go_ret
  exact ⟨by rw [HK.out]; rfl, _, rfl⟩

/-! ## Addressed -/
def ipTo (b : List UInt8) : Nat → Int
  | 0 => 0
  | k + 1 => ipTo b k * 256 + at8 b (26 + k)
def addrOk (b : List UInt8) : Bool := decide (34 ≤ b.length) && (decide (kindP b = 2048) && decide (at8 b 14 / 16 = 4))
def addrP (b : List UInt8) : Int := if addrOk b then ipTo b 4 else 0
theorem ipTo_small (b : List UInt8) (k : Nat) (hk : k < 4) : 0 ≤ ipTo b k ∧ ipTo b k < 16777216 := by
  have a0 := at8_ge b 26
  have a1 := at8_lt b 26
  have b0 := at8_ge b 27
  have b1 := at8_lt b 27
  have c0 := at8_ge b 28
  have c1 := at8_lt b 28
  match k, hk with
  | 0, _ => simp only [ipTo]; omega
  | 1, _ => simp only [ipTo, Nat.add_zero]; omega
  | 2, _ => simp only [ipTo, Nat.add_zero, Nat.reduceAdd]; omega
  | 3, _ => simp only [ipTo, Nat.add_zero, Nat.reduceAdd]; omega
theorem ipTo_four (b : List UInt8) : 0 ≤ ipTo b 4 ∧ ipTo b 4 < 4294967296 := by
  obtain ⟨h1, h2⟩ := ipTo_small b 3 (by omega)
  have d0 := at8_ge b 29
  have d1 := at8_lt b 29
  show 0 ≤ ipTo b 3 * 256 + at8 b 29 ∧ ipTo b 3 * 256 + at8 b 29 < 4294967296
  omega
theorem addrP_bound (b : List UInt8) : 0 ≤ addrP b ∧ addrP b < 4294967296 := by
  unfold addrP
  split
  · exact ipTo_four b
  · decide
theorem cut_frame {A : Option Addr} {n c : Nat} (h : 30 ≤ c) (W : World) : (Instr.slice 46 (.slice A n c) (some (.int .i64 26)) (some (.int .i64 30)) none).run Try.prog W = .ok (sliced A 26 30 c 1) W := slice_bytes_lh (i := 26) (k := 30) (by omega) h W
set_option maxHeartbeats 1600000 in
theorem addressed_any (v : Value) (b : List UInt8) (w : World) (hb : RB w v b) : Calls Try.prog 24 #[v] w fun e w' => e = .returned (.tuple #[.int .u32 (addrP b), .bool (addrOk b)]) ∧ ∃ n, w' = w.drewN n := by
  have HB := Lib.hid hb
  obtain ⟨A, c, rfl, hc, hr⟩ := hb
  by_cases hl : 34 ≤ b.length
  · obtain ⟨g, o, rfl, hcell⟩ := hr (by omega)
    have c14 : w.cell? ⟨g, o + 14, none⟩ = some (.int .u8 (at8 b 14)) := hcell 14 (by omega)
    have HC := Lib.hid (show ∀ k, k < 4 → w.cell? ⟨g, o + 26 + k, none⟩ = some (.int .u8 (at8 b (26 + k))) from fun k hk => by rw [Nat.add_assoc]; exact hcell (26 + k) (by omega))
    have hlen : (34 : Int) ≤ (b.length : Int) := by omega
    have hlt : ¬ (b.length : Int) < 34 := by omega
    have hok : addrOk b = (decide (kindP b = 2048) && decide (at8 b 14 / 16 = 4)) := by unfold addrOk; rw [decide_eq_true hl]; rfl
    have HOK := Lib.hid hok
    clear hcell hr hok
    go_enter Try.func24, Try.ntmps24
    have HK := Lib.hid (show kindP b = kindP b from rfl)
    by_cases hk : kindP b = 2048
    · by_cases h4 : at8 b 14 / 16 = 4
      · have h4b : (at8 b 14 / 16 != 4) = false := by simp [h4]
        go_upto_region 3 with (go_at_call 39; refine (kind_any _ b _ HB.out (by omega)).mono ?_; rintro e w' ⟨rfl, n, rfl⟩)
        have HOT := Lib.hid (show addrOk b = true by rw [HOK.out, hk]; simp [h4])
        have hsl := fun W => cut_frame (A := some ⟨g, o, none⟩) (n := b.length) (c := c) (by omega) W
        have e : sliced (some ⟨g, o, none⟩) 26 30 c 1 = .slice (some ⟨g, o + 26, none⟩) 4 (c - 26) := by
          unfold sliced
          rw [if_neg (by omega)]
          simp [Addr.add_mid]
        rw [e] at hsl
        clear e h4 hk h4b c14
        go_wp2
        go_loopw [4, 25] (fun ip i wr => ∃ k : Nat, k ≤ 4 ∧ i = .int .i64 (k : Nat) ∧ ip = .int .u32 (ipTo b k) ∧ ∃ n, wr = w.drewN n) (fun _ i _ => 4 - (intOf i).toNat)
        case atStart => exact ⟨0, Nat.zero_le _, rfl, rfl, n, rfl⟩
        case round =>
          obtain ⟨k, hk, rfl, rfl, m, rfl⟩ := hrel
          by_cases hlt4 : k < 4
          · have c1 := HC.out k hlt4
            have hx := at8_ge b (26 + k)
            have hx2 := at8_lt b (26 + k)
            obtain ⟨hi, hi2⟩ := ipTo_small b k hlt4
            have ho := or_32 _ _ hi hi2 hx hx2
            have HS := Lib.hid (show ipTo b (k + 1) = ipTo b k * 256 + at8 b (26 + k) from rfl)
            generalize at8 b (26 + k) = x at *
            generalize ipTo b k = y at *
            go_wp2
            go_roundw
            case rel => exact ⟨k + 1, by omega, by go_num, by rw [HS.out], m, rfl⟩
            case measure => simp [intOf]; omega
          · have HK := Lib.hid (show k = 4 by omega)
            go_wp2
            go_ret2
            exact ⟨by unfold addrP; rw [HOT.out, HK.out]; rfl, m, rfl⟩
      · have h4b : (at8 b 14 / 16 != 4) = true := by simp [h4]
        have HOT := Lib.hid (show addrOk b = false by rw [HOK.out]; simp [h4])
        go_wp2_with (go_at_call 39; refine (kind_any _ b _ HB.out (by omega)).mono ?_; rintro e w' ⟨rfl, n, rfl⟩)
        go_ret2
        exact ⟨by unfold addrP; rw [HOT.out]; rfl, n, rfl⟩
    · have hkb : (kindP b != 2048) = true := by simp [hk]
      have HOT := Lib.hid (show addrOk b = false by rw [HOK.out]; simp [hk])
      go_wp2_with (go_at_call 39; refine (kind_any _ b _ HB.out (by omega)).mono ?_; rintro e w' ⟨rfl, n, rfl⟩)
      go_ret2
      exact ⟨by unfold addrP; rw [HOT.out]; rfl, n, rfl⟩
  · have hno : addrOk b = false := by unfold addrOk; rw [decide_eq_false hl]; rfl
    have hn0 : addrP b = 0 := by unfold addrP; rw [hno]; rfl
    have h1 : (b.length : Int) < 34 := by omega
    have HN := Lib.hid (And.intro hno hn0)
    clear hr hno hn0
    go_enter Try.func24, Try.ntmps24
    go_wp2
    go_ret2
    exact ⟨by rw [HN.out.1, HN.out.2]; rfl, 0, rfl⟩
set_option maxHeartbeats 1600000 in
theorem raddressed_any (v : Value) (b : List UInt8) (w : World) (hb : RB w v b) : Calls Try.prog 26 #[v] w fun e w' => e = .returned (.tuple #[.int .u32 (addrP b), .bool (addrOk b)]) ∧ ∃ n, w' = w.drewN n := by
  obtain ⟨A, c, rfl, hc, hr⟩ := hb
  by_cases hl : 34 ≤ b.length
  · obtain ⟨g, o, rfl, hcell⟩ := hr (by omega)
    have cell : ∀ i, i < 34 → w.cell? ⟨g, o + i, none⟩ = some (.int .u8 (at8 b i)) := fun i hi => hcell i (by omega)
    have hok : addrOk b = (decide (at8 b 12 * 256 + at8 b 13 = 2048) && decide (at8 b 14 / 16 = 4)) := by unfold addrOk; rw [decide_eq_true hl]; rfl
    have hip : ipTo b 4 = at8 b 26 * 16777216 + at8 b 27 * 65536 + at8 b 28 * 256 + at8 b 29 := by simp only [ipTo, Nat.add_zero, Nat.reduceAdd]; omega
    have c12 := cell 12 (by omega)
    have c13 := cell 13 (by omega)
    have c14 := cell 14 (by omega)
    have c26 := cell 26 (by omega)
    have c27 := cell 27 (by omega)
    have c28 := cell 28 (by omega)
    have c29 := cell 29 (by omega)
    have r12 := at8_ge b 12
    have s12 := at8_lt b 12
    have r13 := at8_ge b 13
    have s13 := at8_lt b 13
    have r14 := at8_ge b 14
    have s14 := at8_lt b 14
    have r26 := at8_ge b 26
    have s26 := at8_lt b 26
    have r27 := at8_ge b 27
    have s27 := at8_lt b 27
    have r28 := at8_ge b 28
    have s28 := at8_lt b 28
    have r29 := at8_ge b 29
    have s29 := at8_lt b 29
    have HP := Lib.hid (show addrP b = if addrOk b then ipTo b 4 else 0 from rfl)
    clear hcell hr cell
    generalize ipTo b 4 = y at *
    generalize addrP b = yp at *
    generalize addrOk b = ok at *
    generalize at8 b 12 = x12 at *
    generalize at8 b 13 = x13 at *
    generalize at8 b 14 = x14 at *
    generalize at8 b 26 = x26 at *
    generalize at8 b 27 = x27 at *
    generalize at8 b 28 = x28 at *
    generalize at8 b 29 = x29 at *
    have HOK := Lib.hid hok
    have HIP := Lib.hid hip
    have hlen : (34 : Int) ≤ (b.length : Int) := by omega
    have hlt : ¬ (b.length : Int) < 34 := by omega
    have e14 : x14.tdiv 16 = x14 / 16 := Int.tdiv_eq_ediv_of_nonneg r14
    clear hok hip
    by_cases hk : x12 * 256 + x13 = 2048
    · by_cases h4 : x14 / 16 = 4
      · have HOT := Lib.hid (show ok = true by rw [HOK.out]; simp [hk, h4])
        go_enter Try.func26, Try.ntmps26
        go_upto_region 1 with fail
        go_quiet (fail)
        go_upto_region 3 with fail
        go_quiet (fail)
        go_wp2
        go_ret2
        exact ⟨by rw [HP.out, HOT.out, HIP.out]; rfl, _, rfl⟩
      · have h4b : (x14 / 16 != 4) = true := by simp [h4]
        have HOT := Lib.hid (show ok = false by rw [HOK.out]; simp [h4])
        go_enter Try.func26, Try.ntmps26
        go_upto_region 1 with fail
        go_quiet (fail)
        go_wp2
        go_ret2
        exact ⟨by rw [HP.out, HOT.out]; rfl, _, rfl⟩
    · have hkb : (x12 * 256 + x13 != 2048) = true := by simp [hk]
      have HOT := Lib.hid (show ok = false by rw [HOK.out]; simp [hk])
      go_enter Try.func26, Try.ntmps26
      go_upto_region 1 with fail
      go_quiet (fail)
      go_wp2
      go_ret2
      exact ⟨by rw [HP.out, HOT.out]; rfl, _, rfl⟩
  · have hno : addrOk b = false := by unfold addrOk; rw [decide_eq_false hl]; rfl
    have hn0 : addrP b = 0 := by unfold addrP; rw [hno]; rfl
    have h1 : (b.length : Int) < 34 := by omega
    have HN := Lib.hid (And.intro hno hn0)
    clear hr hno hn0
    go_enter Try.func26, Try.ntmps26
    go_upto_region 1 with fail
    go_quiet (fail)
    go_wp2
    go_ret2
    exact ⟨by rw [HN.out.1, HN.out.2]; rfl, _, rfl⟩
end Go.Proofs.Ythoaeolohnalnaa
