/-
  The reference's words of a trace: Rest, Awaited.
-/
import Derived.Test.YthoaeolohnalnaaRb
namespace Go.Proofs.Ythoaeolohnalnaa
open Go.RowKit

def waitR (n : Int) : Int := backoff (n - 1) - backoff (n - 1) / 4
theorem waitR_big (n : Int) (h : 5 ≤ n) : waitR n = 600 := by
  have hb : backoff (n - 1) = 800 := by
    unfold backoff
    by_cases h10 : 10 < n - 1
    · rw [if_pos h10]
      decide
    · rw [if_neg h10]
      have hk : n - 1 = 4 ∨ n - 1 = 5 ∨ n - 1 = 6 ∨ n - 1 = 7 ∨ n - 1 = 8 ∨ n - 1 = 9 ∨ n - 1 = 10 := by omega
      rcases hk with h | h | h | h | h | h | h <;> rw [h] <;> decide
  unfold waitR
  rw [hb]
  decide
def restR (l : List Ev) : Int :=
  if failsR l l.length = 0 then 0 else if 1125899906842624 - waitR (failsR l l.length) < (l.getD (lastR 5 5 l l.length).toNat ev0).time then 1125899906842624 else (l.getD (lastR 5 5 l l.length).toNat ev0).time + waitR (failsR l l.length)
theorem fails_last (l : List Ev) : ∀ k, failsR l k ≠ 0 → 0 ≤ lastR 5 5 l k
  | 0, h => absurd rfl h
  | k + 1, h => by
    unfold failsR at h
    unfold lastR
    by_cases h5 : (l.getD k ev0).kind = 5
    · rw [if_pos (.inl h5)]
      omega
    · rw [if_neg h5] at h
      rw [if_neg (fun h => h.elim h5 h5)]
      exact fails_last l k h
set_option maxHeartbeats 3200000 in
theorem rest_any (v : Value) (l : List Ev) (w : World) (hv : Evs w v l) (hn : l.length ≤ 1000000000000) (hT : ∀ j, j < l.length → 0 ≤ (l.getD j ev0).time ∧ (l.getD j ev0).time ≤ 1125899906842624) :
    Calls Try.prog 62 #[v] w fun r w' => r = .returned (.int .i64 (restR l)) ∧ w = w' := by
  obtain ⟨A, c, rfl, hc⟩ := hv.form
  have hfa := fails_any _ l w hv hn
  have hla := last_any 5 5 _ l w hv hn
  have HF := Lib.hid (fails_last l l.length)
  have HV := Lib.hid hv
  have HTm := Lib.hid hT
  obtain ⟨f0, f1⟩ := failsR_bounds l l.length
  have hb := lastR_bounds 5 5 l l.length
  have HR := Lib.hid (show restR l = if failsR l l.length = 0 then 0 else if 1125899906842624 - waitR (failsR l l.length) < (l.getD (lastR 5 5 l l.length).toNat ev0).time then 1125899906842624 else (l.getD (lastR 5 5 l l.length).toNat ev0).time + waitR (failsR l l.length) from rfl)
  generalize failsR l l.length = n at *
  generalize lastR 5 5 l l.length = at5 at *
  clear hv hT
  go_enter Try.func62, Try.ntmps62
  go_upto_region 2 with (go_at_call 56; refine hfa.mono ?_; rintro r w' ⟨rfl, rfl⟩)
  by_cases h0 : n = 0
  · subst h0
    have hs := Lib.hid (show restR l = 0 by rw [HR.out]; simp)
    clear HR hla hfa
    go_wp2_with fail
    go_ret
    exact ⟨by rw [hs.out]; rfl, rfl⟩
  · obtain ⟨k, rfl⟩ := Int.eq_ofNat_of_zero_le (HF.out h0)
    have hk : k < l.length := by omega
    obtain ⟨g, o, rfl, hcell, _⟩ := HV.out.at hk
    obtain ⟨t0, t1⟩ := HTm.out k hk
    rw [Int.toNat_natCast] at HR
    have q1 : w.cell? ⟨g, o + k * 7 + 1, none⟩ = some (.int .i64 (l.getD k ev0).time) := hcell 1 (by omega)
    generalize (l.getD k ev0).time = t at *
    have hn1 : 1 ≤ n := by omega
    have HE := Lib.hid (show restR l = if 1125899906842624 - waitR n < t then 1125899906842624 else t + waitR n by rw [HR.out, if_neg h0])
    clear HR h0 HF HTm hcell HV
    go_upto_region 7 with (go_at_call 48; refine hla.mono ?_; rintro r w' ⟨rfl, rfl⟩)
    clear hfa hla
    go_loopw [5, 6] (fun b i wr => ((i = .int .i64 1 ∧ b = .int .i64 50) ∨ (i = .int .i64 2 ∧ b = .int .i64 100 ∧ 2 ≤ n) ∨ (i = .int .i64 3 ∧ b = .int .i64 200 ∧ 3 ≤ n) ∨ (i = .int .i64 4 ∧ b = .int .i64 400 ∧ 4 ≤ n) ∨ (i = .int .i64 5 ∧ b = .int .i64 800 ∧ 5 ≤ n)) ∧ wr = w) (fun _ i _ => 6 - (intOf i).toNat)
    case atStart => exact ⟨.inl ⟨rfl, rfl⟩, rfl⟩
    case round =>
      obtain ⟨h5, rfl⟩ := hrel
      rcases h5 with ⟨rfl, rfl⟩ | ⟨rfl, rfl, hn2⟩ | ⟨rfl, rfl, hn2⟩ | ⟨rfl, rfl, hn2⟩ | ⟨rfl, rfl, hn2⟩
      · by_cases hj : 1 < n
        · go_wp2_with fail
          go_roundw
          case rel => exact ⟨.inr (.inl ⟨rfl, rfl, by omega⟩), trivial⟩
          case measure => simp [intOf]
        · have hw : waitR n = 38 := by
            obtain rfl : n = 1 := by omega
            decide
          have HE2 := Lib.hid (show restR l = if 1125899906842586 < t then 1125899906842624 else t + 38 by rw [HE.out, hw]; rfl)
          clear HE hw
          by_cases hm : 1125899906842586 < t
          · go_wp2_with fail
            go_ret
            exact ⟨by rw [HE2.out, if_pos hm]; rfl, rfl⟩
          · go_wp2_with fail
            go_ret
            exact ⟨by rw [HE2.out, if_neg (by omega)]; rfl, rfl⟩
      · by_cases hj : 2 < n
        · go_wp2_with fail
          go_roundw
          case rel => exact ⟨.inr (.inr (.inl ⟨rfl, rfl, by omega⟩)), trivial⟩
          case measure => simp [intOf]
        · have hw : waitR n = 75 := by
            obtain rfl : n = 2 := by omega
            decide
          have HE2 := Lib.hid (show restR l = if 1125899906842549 < t then 1125899906842624 else t + 75 by rw [HE.out, hw]; rfl)
          clear HE hw
          by_cases hm : 1125899906842549 < t
          · go_wp2_with fail
            go_ret
            exact ⟨by rw [HE2.out, if_pos hm]; rfl, rfl⟩
          · go_wp2_with fail
            go_ret
            exact ⟨by rw [HE2.out, if_neg (by omega)]; rfl, rfl⟩
      · by_cases hj : 3 < n
        · go_wp2_with fail
          go_roundw
          case rel => exact ⟨.inr (.inr (.inr (.inl ⟨rfl, rfl, by omega⟩))), trivial⟩
          case measure => simp [intOf]
        · have hw : waitR n = 150 := by
            obtain rfl : n = 3 := by omega
            decide
          have HE2 := Lib.hid (show restR l = if 1125899906842474 < t then 1125899906842624 else t + 150 by rw [HE.out, hw]; rfl)
          clear HE hw
          by_cases hm : 1125899906842474 < t
          · go_wp2_with fail
            go_ret
            exact ⟨by rw [HE2.out, if_pos hm]; rfl, rfl⟩
          · go_wp2_with fail
            go_ret
            exact ⟨by rw [HE2.out, if_neg (by omega)]; rfl, rfl⟩
      · by_cases hj : 4 < n
        · go_wp2_with fail
          go_roundw
          case rel => exact ⟨.inr (.inr (.inr (.inr ⟨rfl, rfl, by omega⟩))), trivial⟩
          case measure => simp [intOf]
        · have hw : waitR n = 300 := by
            obtain rfl : n = 4 := by omega
            decide
          have HE2 := Lib.hid (show restR l = if 1125899906842324 < t then 1125899906842624 else t + 300 by rw [HE.out, hw]; rfl)
          clear HE hw
          by_cases hm : 1125899906842324 < t
          · go_wp2_with fail
            go_ret
            exact ⟨by rw [HE2.out, if_pos hm]; rfl, rfl⟩
          · go_wp2_with fail
            go_ret
            exact ⟨by rw [HE2.out, if_neg (by omega)]; rfl, rfl⟩
      · have hw : waitR n = 600 := waitR_big n hn2
        have HE2 := Lib.hid (show restR l = if 1125899906842024 < t then 1125899906842624 else t + 600 by rw [HE.out, hw]; rfl)
        clear HE hw
        by_cases hj : 5 < n
        · by_cases hm : 1125899906842024 < t
          · go_wp2_with fail
            go_ret
            exact ⟨by rw [HE2.out, if_pos hm]; rfl, rfl⟩
          · go_wp2_with fail
            go_ret
            exact ⟨by rw [HE2.out, if_neg (by omega)]; rfl, rfl⟩
        · by_cases hm : 1125899906842024 < t
          · go_wp2_with fail
            go_ret
            exact ⟨by rw [HE2.out, if_pos hm]; rfl, rfl⟩
          · go_wp2_with fail
            go_ret
            exact ⟨by rw [HE2.out, if_neg (by omega)]; rfl, rfl⟩
end Go.Proofs.Ythoaeolohnalnaa
