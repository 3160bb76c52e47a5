/-
  The reference's rules: framed, free.
-/
import Derived.Test.YthoaeolohnalnaaRd
namespace Go.Proofs.Ythoaeolohnalnaa
open Go.RowKit

def framedR (c : Cfg) (b : List UInt8) : Bool := decide (60 ≤ b.length) && (decide (b.length ≤ 1514) && (decide ((b.drop 6).take 6 = c.mac) && (decide (kindP b = 2048) || decide (kindP b = 2054))))
theorem sentBad_eq (c : Cfg) (e : Ev) : sentBad c e = !framedR c e.data := by
  rw [Bool.eq_iff_iff]
  simp [sentBad, framedR]
def freeR (l : List Ev) (t : Int) : Bool := !overR l && (!underR l && ((heldR l).isSome && decide (restR l ≤ t)))
theorem mac_eq {b m : List UInt8} (hb : 12 ≤ b.length) (hm : m.length = 6) (h : ∀ j, j < 6 → b.getD (6 + j) 0 = m.getD j 0) : (b.drop 6).take 6 = m := by
  rw [six b 6 (by omega)]
  have hm6 : m = [m.getD 0 0, m.getD 1 0, m.getD 2 0, m.getD 3 0, m.getD 4 0, m.getD 5 0] := by
    have := six m 0 (by omega)
    rw [List.drop_zero, List.take_of_length_le (by omega)] at this
    exact this
  rw [hm6, h 0 (by omega), h 1 (by omega), h 2 (by omega), h 3 (by omega), h 4 (by omega), h 5 (by omega)]
theorem mac_ne {b m : List UInt8} {j : Nat} (hj : j < 6) (h : ¬ b.getD (6 + j) 0 = m.getD j 0) : ¬ (b.drop 6).take 6 = m := by
  rintro rfl
  apply h
  simp [List.getD, List.getElem?_take_of_lt hj]
set_option maxHeartbeats 3200000 in
set_option maxRecDepth 100000 in
theorem framed_any (c : Cfg) (v : Value) (d : List UInt8) (w : World) (hc : c.ok) (hv : RB w v d) :
    Calls Try.prog 59 #[.agg c.cells.toArray, v] w fun r w' => r = .returned (.bool (framedR c d)) ∧ Only Nil w w' := by
  obtain ⟨A, cp, rfl, hcp, hr⟩ := hv
  have HV := Lib.hid (show ∀ W, Only Nil w W → 0 < d.length → ∃ g o, A = some ⟨g, o, none⟩ ∧ ∀ j, j < d.length → W.cell? ⟨g, o + j, none⟩ = some (.int .u8 (by8 (d.getD j 0))) from fun W ho h0 => by
    obtain ⟨g, o, hA, hcell⟩ := hr h0
    exact ⟨g, o, hA, fun j hj => ho.cell (hcell j hj) id⟩)
  have HC := Lib.hid hc
  have HM := Lib.hid hc.mac
  clear hr hc
  go_enter Try.func59, Try.ntmps59
  go_upto_region 1 with fail
  obtain ⟨b, hb⟩ : ∃ b, w.heap.size = b := ⟨_, rfl⟩
  refine wp_gen (fun W => Only Nil w W ∧ Blk W b 26 c.cells) ⟨(Only.refl _ _).alloc _, hb ▸ Blk.new w _ _⟩ ?_
  rw [hb]
  clear hb
  intro w1 h1
  have H1 := Lib.hid h1
  clear h1
  by_cases l0 : d.length < 60
  · have hs := Lib.hid (show framedR c d = false by simp [framedR]; omega)
    go_wp2
    go_ret
    exact ⟨by rw [hs.out]; rfl, H1.out.1⟩
  by_cases l1 : 1514 < d.length
  · have hs := Lib.hid (show framedR c d = false by simp [framedR]; omega)
    go_wp2
    go_ret
    exact ⟨by rw [hs.out]; rfl, H1.out.1⟩
  obtain ⟨g, o, rfl, _⟩ := HV.out _ H1.out.1 (by omega)
  have HV2 := Lib.hid (show ∀ W, Only Nil w W → ∀ j, j < d.length → W.cell? ⟨g, o + j, none⟩ = some (.int .u8 (by8 (d.getD j 0))) from fun W ho j hj => by
    obtain ⟨g', o', hA, hcell⟩ := HV.out W ho (by omega)
    injection hA with hA
    injection hA with h1 h2
    subst h1 h2
    exact hcell j hj)
  clear HV
  go_upto_region 4 with fail
  go_loopw [5] (fun i wr => ∃ k : Nat, k ≤ 6 ∧ i = .int .i64 (k : Nat) ∧ (∀ j, j < k → d.getD (6 + j) 0 = c.mac.getD j 0) ∧ Only Nil w wr ∧ Blk wr b 26 c.cells) (fun i _ => 6 - (intOf i).toNat)
  case atStart => exact ⟨0, by omega, rfl, fun j hj => absurd hj (by omega), H1.out⟩
  case round =>
    obtain ⟨k, hk, rfl, hall, hO⟩ := hrel
    have HA := Lib.hid hall
    have HO := Lib.hid hO
    clear hall hO H1
    by_cases hlt : k < 6
    · have qm := cfg_mac HC.out HO.out.2 k hlt
      have qd := HV2.out _ HO.out.1 (6 + k) (by omega)
      have HX := Lib.hid (show ∀ x y, by8 (d.getD (6 + k) 0) = x → by8 (c.mac.getD k 0) = y → (x = y ↔ d.getD (6 + k) 0 = c.mac.getD k 0) from fun x y hx hy => by subst hx hy; exact ⟨by8_inj, fun h => by rw [h]⟩)
      have hx0 := by8_ge (d.getD (6 + k) 0)
      have hx1 := by8_lt (d.getD (6 + k) 0)
      by_cases hxy : d.getD (6 + k) 0 = c.mac.getD k 0
      · have hb : by8 (d.getD (6 + k) 0) = by8 (c.mac.getD k 0) := by rw [hxy]
        have HXY := Lib.hid hxy
        rw [hb] at qd
        generalize by8 (c.mac.getD k 0) = y at *
        clear hb hxy hx0 hx1 HX
        have hy : (y != y) = false := by simp
        go_upto_region 6 with fail
        go_quiet (fail)
        go_wp2
        go_roundw
        case rel => exact ⟨k + 1, by omega, by go_num, fun j hj => by
          by_cases hjk : j = k
          · rw [hjk]; exact HXY.out
          · exact HA.out j (by omega), HO.out.1.drewN _, HO.out.2⟩
        case measure => simp [intOf]; omega
      · have hs := Lib.hid (show framedR c d = false by simp [framedR, mac_ne hlt hxy])
        have hne : (by8 (d.getD (6 + k) 0) != by8 (c.mac.getD k 0)) = true := by
          simp only [bne_iff_ne]
          exact fun h => hxy (by8_inj h)
        generalize by8 (c.mac.getD k 0) = y at *
        generalize by8 (d.getD (6 + k) 0) = x at *
        clear hxy HX
        go_upto_region 6 with fail
        go_quiet (fail)
        go_wp2
        go_ret
        exact ⟨by rw [hs.out]; rfl, HO.out.1.drewN _⟩
    · obtain rfl : k = 6 := by omega
      have hmac := mac_eq (show 12 ≤ d.length by omega) HM.out HA.out
      have HS := Lib.hid (show framedR c d = (decide (kindP d = 2048) || decide (kindP d = 2054)) by
        have e1 : decide (60 ≤ d.length) = true := by simp; omega
        have e2 : decide (d.length ≤ 1514) = true := by simp; omega
        simp [framedR, hmac, e1, e2])
      have c12 : wr.cell? ⟨g, o + 12, none⟩ = some (.int .u8 (at8 d 12)) := HV2.out _ HO.out.1 12 (by omega)
      have c13 : wr.cell? ⟨g, o + 13, none⟩ = some (.int .u8 (at8 d 13)) := HV2.out _ HO.out.1 13 (by omega)
      have hx := at8_ge d 12
      have hx2 := at8_lt d 12
      have hy := at8_ge d 13
      have hy2 := at8_lt d 13
      have HK := Lib.hid (show kindP d = at8 d 12 * 256 + at8 d 13 from rfl)
      generalize at8 d 12 = x at *
      generalize at8 d 13 = y at *
      rw [HK.out] at HS
      clear hmac HA HM HK
      by_cases ka : x * 256 + y = 2048
      · have hs := Lib.hid (show framedR c d = true by rw [HS.out]; simp [ka])
        have kab : (x * 256 + y == 2048) = true := by simp [ka]
        clear HS ka
        go_upto_region 8 with fail
        go_quiet (fail)
        go_wp2
        go_ret
        exact ⟨by rw [hs.out]; rfl, HO.out.1.drewN _⟩
      · have kab : (x * 256 + y == 2048) = false := by simp [ka]
        by_cases kb : x * 256 + y = 2054
        · have hs := Lib.hid (show framedR c d = true by rw [HS.out]; simp [kb])
          have kbb : (x * 256 + y == 2054) = true := by simp [kb]
          clear HS ka kb
          go_upto_region 8 with fail
          go_quiet (fail)
          go_wp2
          go_ret
          exact ⟨by rw [hs.out]; rfl, HO.out.1.drewN _⟩
        · have hs := Lib.hid (show framedR c d = false by rw [HS.out]; simp [ka, kb])
          have kbb : (x * 256 + y == 2054) = false := by simp [kb]
          clear HS ka kb
          go_upto_region 8 with fail
          go_quiet (fail)
          go_wp2
          go_ret
          exact ⟨by rw [hs.out]; rfl, HO.out.1.drewN _⟩
theorem ev_form (o : Option Ev) : ∃ e : Ev, heldV o = e.v := by
  cases o
  · exact ⟨ev0, rfl⟩
  · exact ⟨_, rfl⟩
set_option maxHeartbeats 1600000 in
theorem free_any (v : Value) (l : List Ev) (t : Int) (w : World) (hv : Evs w v l) (hn : l.length ≤ 1000000000000) (hT : ∀ j, j < l.length → 0 ≤ (l.getD j ev0).time ∧ (l.getD j ev0).time ≤ 1125899906842624) :
    Calls Try.prog 57 #[v, .int .i64 t] w fun r w' => r = .returned (.bool (freeR l t)) ∧ Only Nil w w' := by
  have ho := over_any v l w hv hn
  have hu := under_any v l w hv hn
  have hh := held_any v l w hv hn
  have HR := Lib.hid (show ∀ W, Only Nil w W → _ from fun W ho => rest_any v l W (hv.nil ho) hn hT)
  have HF := Lib.hid (show freeR l t = (!overR l && (!underR l && ((heldR l).isSome && decide (restR l ≤ t)))) from rfl)
  obtain ⟨e, he⟩ := ev_form (heldR l)
  rw [he] at hh
  generalize overR l = ov at *
  generalize underR l = un at *
  generalize (heldR l).isSome = hd at *
  generalize restR l = rs at *
  clear hv hT he
  obtain ⟨kind, time, ip, till, why, len, a, cap, data⟩ := e
  unfold Ev.v at hh
  go_enter Try.func57, Try.ntmps57
  go_upto_region 4 with (first
    | (go_at_call 37; refine ho.mono ?_; rintro r w' ⟨rfl, rfl⟩)
    | (go_at_call 38; refine hu.mono ?_; rintro r w' ⟨rfl, rfl⟩)
    | (go_at_call 46; refine hh.mono ?_; rintro r w1 ⟨rfl, ho1⟩))
  refine wp_gen (fun W => Only Nil w W) (ho1.alloc _) ?_
  clear ho hu hh ho1
  intro w2 h2
  have H2 := Lib.hid h2
  clear h2
  go_upto_region 5 with (go_at_call 62; refine (HR.out _ H2.out).mono ?_; rintro r w' ⟨rfl, rfl⟩)
  cases ov
  · cases un
    · cases hd
      · go_wp2
        go_ret
        exact ⟨by rw [HF.out]; rfl, H2.out⟩
      · by_cases h : rs ≤ t
        · go_wp2
          go_ret
          exact ⟨by rw [HF.out]; simp [h], H2.out⟩
        · go_wp2
          go_ret
          exact ⟨by rw [HF.out]; simp <;> omega, H2.out⟩
    · go_wp2
      go_ret
      exact ⟨by rw [HF.out]; rfl, H2.out⟩
  · go_wp2
    go_ret
    exact ⟨by rw [HF.out]; rfl, H2.out⟩
end Go.Proofs.Ythoaeolohnalnaa
