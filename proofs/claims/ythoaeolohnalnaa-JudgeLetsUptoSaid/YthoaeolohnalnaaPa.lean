/-
  The simple system of JudgeLets: an address as four bytes (Put), a frame.
-/
import Derived.Test.YthoaeolohnalnaaRowN
import Derived.Test.YthoaeolohnalnaaRf
import Derived.Test.YthoaeolohnalnaaJm
import Derived.Deep.DeepCutAuto
namespace Go.Proofs.Ythoaeolohnalnaa
open Go.RowKit

def nQ (ip : Int) : Nat → Int
  | 0 => ip
  | k + 1 => nQ ip k / 256
def putQ (ip : Int) : Nat → List UInt8
  | 0 => [0, 0, 0, 0]
  | k + 1 => (putQ ip k).set (3 - k) (UInt8.ofNat (nQ ip k % 256).toNat)
theorem nQ_bounds (ip : Int) (h0 : 0 ≤ ip) (h1 : ip < 4294967296) : ∀ k, 0 ≤ nQ ip k ∧ nQ ip k < 4294967296
  | 0 => ⟨h0, h1⟩
  | k + 1 => by
    have := nQ_bounds ip h0 h1 k
    show 0 ≤ nQ ip k / 256 ∧ nQ ip k / 256 < 4294967296
    omega
theorem putQ_len (ip : Int) : ∀ k, (putQ ip k).length = 4
  | 0 => rfl
  | k + 1 => by
    show ((putQ ip k).set (3 - k) _).length = 4
    rw [List.length_set]
    exact putQ_len ip k
set_option maxHeartbeats 1600000 in
theorem put_any (ip : Int) (w : World) (h0 : 0 ≤ ip) (h1 : ip < 4294967296) :
    Calls Try.prog 43 #[.int .u64 ip, .int .i64 4] w fun r w' => r = .returned (.slice (some ⟨w.heap.size, 0, none⟩) 4 4) ∧ Blk w' w.heap.size 5 (BC (putQ ip 4)) ∧ Only Nil w w' := by
  obtain ⟨ib, hib, hbz, hbs, hbb⟩ := info_parts info_byte
  have hmk : ∀ u : World, (Instr.makeSlice 46 (.int .i64 4) (.int .i64 4)).run Try.prog u = .ok (.slice (some ⟨u.heap.size, 0, none⟩) 4 4) (u.alloc (.cells (BC (putQ ip 0)).toArray 5)) := fun u => by
    have h := run_make (P := Try.prog) u 46 5 ib (.int .u8 0) Try.underlying46 hib hbz .i64 .i64 4 4 (by omega) (Int.le_refl _) (by rw [hbb]; omega) (by omega)
    have e : madeCells (Value.int IntKind.u8 0).cells (Int.toNat 4 * 1) = (BC (putQ ip 0)).toArray := made_zeros 4
    rw [hbs, e] at h
    exact h
  go_enter Try.func43, Try.ntmps43
  go_upto_region 5 with fail
  obtain ⟨g, hg⟩ : ∃ b, w.heap.size = b := ⟨_, rfl⟩
  have HG := Lib.hid hg
  refine wp_gen (fun W => Only Nil w W ∧ Blk W g 5 (BC (putQ ip 0))) ⟨(Only.refl _ _).alloc _, hg ▸ Blk.new w _ _⟩ ?_
  rw [hg]
  clear hg hmk
  intro w1 h1
  have H1 := Lib.hid h1
  have HB := Lib.hid (nQ_bounds ip h0 (by assumption))
  clear h1
  go_loopw [0, 6] (fun n i wr => ∃ k : Nat, k ≤ 4 ∧ i = .int .i64 (k : Nat) ∧ n = .int .u64 (nQ ip k) ∧ Only Nil w wr ∧ Blk wr g 5 (BC (putQ ip k))) (fun _ i _ => 4 - (intOf i).toNat)
  case atStart => exact ⟨0, Nat.zero_le _, rfl, rfl, H1.out⟩
  case round =>
    obtain ⟨k, hk, rfl, rfl, hO, hB⟩ := hrel
    clear H1
    obtain ⟨n0, n1⟩ := HB.out k
    have hl := putQ_len ip k
    by_cases hlt : k < 4
    · have g1 : (k : Int) < 4 := by omega
      have hj4 : 3 - k < (putQ ip k).length := by omega
      have c0 : wr.cell? ⟨g, 3 - k, none⟩ = some (.int .u8 (by8 ((putQ ip k).getD (3 - k) 0))) := by rw [hB.cell]; exact BC_get _ _ hj4
      have z0 := hB.free (3 - k)
      have HF := Lib.hid (show Only Nil w (wr.setCell ⟨g, 3 - k, none⟩ (.int .u8 (nQ ip k % 256))) ∧ Blk (wr.setCell ⟨g, 3 - k, none⟩ (.int .u8 (nQ ip k % 256))) g 5 (BC (putQ ip (k + 1))) from by
        refine ⟨hO.setCell (p := ⟨g, 3 - k, none⟩) (.inr (by rw [← HG.out]; exact Nat.le_refl _)) _, ?_⟩
        have h := hB.set (3 - k) (.int .u8 (by8 (UInt8.ofNat (nQ ip k % 256).toNat)))
        rw [BC_set, by8_ofNat, show (((nQ ip k % 256).toNat : Nat) : Int) % 256 = nQ ip k % 256 by omega] at h
        exact h)
      have HN := Lib.hid (show nQ ip (k + 1) = nQ ip k / 256 from rfl)
      generalize nQ ip k = n at *
      have m0 : 0 ≤ n % 256 := by omega
      have m1 : n % 256 < 256 := by omega
      clear hO hB hl HB
      go_wp2
      go_roundw
      case rel => exact ⟨k + 1, by omega, by go_num, by rw [HN.out], HF.out⟩
      case measure => simp [intOf]; omega
    · obtain rfl : k = 4 := by omega
      go_wp2
      go_ret
      exact ⟨by rw [HG.out]; rfl, by rw [HG.out]; exact hB, hO⟩
/-- The bytes of a frame that says where it comes from. -/
def ipQ (ip : Int) : List UInt8 := putQ ip 4
def frameQ (mac : List UInt8) (ip : Int) : List UInt8 := List.replicate 6 0 ++ (mac ++ ([8, 0, 69] ++ (List.replicate 11 0 ++ (ipQ ip ++ List.replicate 30 0))))
theorem ipQ_four (ip : Int) : ipQ ip = [UInt8.ofNat (nQ ip 3 % 256).toNat, UInt8.ofNat (nQ ip 2 % 256).toNat, UInt8.ofNat (nQ ip 1 % 256).toNat, UInt8.ofNat (nQ ip 0 % 256).toNat] := rfl
theorem frame_facts {mac : List UInt8} {ip : Int} (hm : mac.length = 6) (h0 : 0 ≤ ip) (h1 : ip < 4294967296) :
    (frameQ mac ip).length = 60 ∧ ((frameQ mac ip).drop 6).take 6 = mac ∧ kindP (frameQ mac ip) = 2048 ∧ addrOk (frameQ mac ip) = true ∧ addrP (frameQ mac ip) = ip := by
  match mac, hm with
  | [m0, m1, m2, m3, m4, m5], _ =>
    have hk : kindP (frameQ [m0, m1, m2, m3, m4, m5] ip) = 2048 := by
      show by8 8 * 256 + by8 0 = 2048
      decide
    have hok : addrOk (frameQ [m0, m1, m2, m3, m4, m5] ip) = true := by
      unfold addrOk
      rw [hk]
      have h14 : at8 (frameQ [m0, m1, m2, m3, m4, m5] ip) 14 = 69 := by
        show by8 69 = 69
        decide
      have hl : (frameQ [m0, m1, m2, m3, m4, m5] ip).length = 60 := rfl
      rw [h14, hl]
      decide
    refine ⟨rfl, rfl, hk, hok, ?_⟩
    unfold addrP
    rw [if_pos hok]
    have b : ∀ x : Int, 0 ≤ x → by8 (UInt8.ofNat (x % 256).toNat) = x % 256 := fun x hx => by
      rw [by8_ofNat]
      omega
    show ((((0 : Int) * 256 + by8 (UInt8.ofNat (nQ ip 3 % 256).toNat)) * 256 + by8 (UInt8.ofNat (nQ ip 2 % 256).toNat)) * 256 + by8 (UInt8.ofNat (nQ ip 1 % 256).toNat)) * 256 + by8 (UInt8.ofNat (nQ ip 0 % 256).toNat) = ip
    have hb := nQ_bounds ip h0 h1
    rw [b _ (hb 3).1, b _ (hb 2).1, b _ (hb 1).1, b _ (hb 0).1]
    have e1 : nQ ip 1 = ip / 256 := rfl
    have e2 : nQ ip 2 = ip / 256 / 256 := rfl
    have e3 : nQ ip 3 = ip / 256 / 256 / 256 := rfl
    have e0 : nQ ip 0 = ip := rfl
    rw [e0, e1, e2, e3]
    omega
end Go.Proofs.Ythoaeolohnalnaa
