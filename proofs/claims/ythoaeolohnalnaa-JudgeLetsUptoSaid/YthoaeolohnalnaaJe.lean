/-
  What the judge asks of a frame that was sent.
-/
import Derived.Test.YthoaeolohnalnaaJc
namespace Go.Proofs.Ythoaeolohnalnaa
open Go.RowKit

def sentBad (c : Cfg) (e : Ev) : Bool := decide (e.data.length < 60) || (decide (1514 < e.data.length) || (!decide ((e.data.drop 6).take 6 = c.mac) || (!decide (kindP e.data = 2048) && !decide (kindP e.data = 2054))))
def sentWrong (s : Lk) (e : Ev) : Bool := addrOk e.data && (!decide (addrP e.data = 0) && (!s.held || !decide (addrP e.data = s.ip)))
def sentP (c : Cfg) (s : Lk) (e : Ev) : Int := if sentBad c e then 5 else if sentWrong s e then 6 else 0
theorem kind_is (v : Value) (b : List UInt8) (hl : 14 ≤ b.length) (w : World) (hb : RB w v b) (n : Nat) : Calls Try.prog 39 #[v] (w.drewN n) fun e w' => e = .returned (.int .i64 (kindP b)) ∧ ∃ m, w' = (w.drewN n).drewN m := kind_any v b (w.drewN n) (hb.drewN n) hl
theorem equal6 (W : World) (x y : List UInt8) (hx : x.length = 6) (hy : y.length = 6) : (Op.equalIn 10000 23 (.agg (BC x).toArray) (.agg (BC y).toArray)).run Try.prog W = .ok (x == y) W :=
  run_equalIn_bytes W 9998 23 5 6 (by kernel_rfl) Try.underlying5 (fun w => by obtain ⟨ib, hib, _, hbs, _⟩ := info_parts info_byte; simp [sizeOf, typeInfo, hib, hbs]) x y hx hy
theorem six (l : List UInt8) (n : Nat) (h : n + 6 ≤ l.length) : (l.drop n).take 6 = [l.getD n 0, l.getD (n + 1) 0, l.getD (n + 2) 0, l.getD (n + 3) 0, l.getD (n + 4) 0, l.getD (n + 5) 0] := by
  apply List.ext_getElem
  · simp; omega
  intro i h1 h2
  have hi : i < 6 := by simpa using h2
  simp only [List.getElem_take, List.getElem_drop]
  match i, hi with
  | 0, _ => simp [List.getD, List.getElem?_eq_getElem (show n < l.length by omega)]
  | 1, _ => simp [List.getD, List.getElem?_eq_getElem (show n + 1 < l.length by omega)]
  | 2, _ => simp [List.getD, List.getElem?_eq_getElem (show n + 2 < l.length by omega)]
  | 3, _ => simp [List.getD, List.getElem?_eq_getElem (show n + 3 < l.length by omega)]
  | 4, _ => simp [List.getD, List.getElem?_eq_getElem (show n + 4 < l.length by omega)]
  | 5, _ => simp [List.getD, List.getElem?_eq_getElem (show n + 5 < l.length by omega)]
theorem array_at (g o c : Nat) (W : World) : (Instr.arrayAt 23 (.slice (some ⟨g, o, none⟩) 6 c)).run Try.prog W = .ok (.pointer (some ⟨g, o, none⟩)) W := by
  have hu : Try.prog.underlying 23 = some (.array 6 5) := by kernel_rfl
  simp [Instr.arrayAt, run_underlying hu]
set_option maxHeartbeats 3200000 in
theorem sent_any (g : Nat) (c : Cfg) (s : Lk) (e : Ev) (w : World) (h : LkAt w g c s) (hb : RB w e.d e.data) : Calls Try.prog 49 #[.pointer (some ⟨g, 0, none⟩), e.v] w fun r w' => r = .returned (.int .i64 (sentP c s e)) ∧ Only Nil w w' := by
  obtain ⟨kind, time, ip, till, why, len, a, cap, data⟩ := e
  unfold Ev.v
  have HB := Lib.hid (show ∀ W, Only Nil w W → RB W (.slice a data.length cap) data from fun W ho => hb.only ho fun _ _ => id)
  obtain ⟨b, hbw⟩ : ∃ b, w.heap.size = b := ⟨_, rfl⟩
  have PRE := Lib.hid (show LkAt (w.alloc (.cells #[.int .i64 kind, .int .i64 time, .int .u32 ip, .int .i64 till, .int .i64 why, .int .i64 len, .slice a data.length cap] 48)) g c s ∧ Only Nil w (w.alloc (.cells #[.int .i64 kind, .int .i64 time, .int .u32 ip, .int .i64 till, .int .i64 why, .int .i64 len, .slice a data.length cap] 48)) ∧ Blk (w.alloc (.cells #[.int .i64 kind, .int .i64 time, .int .u32 ip, .int .i64 till, .int .i64 why, .int .i64 len, .slice a data.length cap] 48)) b 48 [.int .i64 kind, .int .i64 time, .int .u32 ip, .int .i64 till, .int .i64 why, .int .i64 len, .slice a data.length cap] from
    ⟨h.only ((Only.refl Nil w).alloc _) id, (Only.refl _ _).alloc _, hbw ▸ Blk.new w _ _⟩)
  obtain ⟨now, held, sip, stl, under, over, fails, ready, awaited⟩ := s
  clear h hb
  go_enter Try.func49, Try.ntmps49
  go_upto_region 1 with fail
  (try rw [hbw])
  clear hbw
  refine wp_gen (fun W => LkAt W g c ⟨now, held, sip, stl, under, over, fails, ready, awaited⟩ ∧ Only Nil w W ∧ Blk W b 48 [.int .i64 kind, .int .i64 time, .int .u32 ip, .int .i64 till, .int .i64 why, .int .i64 len, .slice a data.length cap]) PRE.out ?_
  clear PRE
  intro w1 h1
  have H1 := Lib.hid h1
  have e6 : w1.cell? ⟨b, 6, none⟩ = some (.slice a data.length cap) := h1.2.2.cell 6
  clear h1
  go_upto_region 2 with fail
  by_cases h60 : data.length < 60
  · have h60b : (data.length : Int) < 60 := by omega
    have HP := Lib.hid (show sentP c ⟨now, held, sip, stl, under, over, fails, ready, awaited⟩ ⟨kind, time, ip, till, why, len, a, cap, data⟩ = 5 by simp [sentP, sentBad, h60])
    go_quiet (fail)
    go_wp2
    go_ret
    exact ⟨by rw [HP.out]; rfl, H1.out.2.1.drewN _⟩
  by_cases h15 : 1514 < data.length
  · have h60b : ¬ (data.length : Int) < 60 := by omega
    have h15b : (1514 : Int) < (data.length : Int) := by omega
    have HP := Lib.hid (show sentP c ⟨now, held, sip, stl, under, over, fails, ready, awaited⟩ ⟨kind, time, ip, till, why, len, a, cap, data⟩ = 5 by simp [sentP, sentBad, h15])
    go_quiet (fail)
    go_wp2
    go_ret
    exact ⟨by rw [HP.out]; rfl, H1.out.2.1.drewN _⟩
  obtain ⟨A2, c2, ea, hcap, hr⟩ := HB.out w1 H1.out.2.1
  injection ea with ea1 _ ea3
  subst ea1 ea3
  obtain ⟨ga, oa, rfl, hcell⟩ := hr (by omega)
  have h60b : ¬ (data.length : Int) < 60 := by omega
  have h15b : ¬ (1514 : Int) < (data.length : Int) := by omega
  have hsl : ∀ W : World, (Instr.slice 46 (.slice (some ⟨ga, oa, none⟩) data.length cap) (some (.int .i64 6)) (some (.int .i64 12)) none).run Try.prog W = .ok (.slice (some ⟨ga, oa + 6, none⟩) 6 (cap - 6)) W := fun W => by
    have h := slice_bytes_lh (A := some ⟨ga, oa, none⟩) (n := data.length) (c := cap) (i := 6) (k := 12) (by omega) (by omega) W
    have e : sliced (some ⟨ga, oa, none⟩) 6 12 cap 1 = .slice (some ⟨ga, oa + 6, none⟩) 6 (cap - 6) := by
      unfold sliced
      rw [if_neg (by omega)]
      simp [Addr.add_mid]
    rw [e] at h
    exact h
  have m0 := H1.out.1.cMac 0 (by omega)
  have m1 := H1.out.1.cMac 1 (by omega)
  have m2 := H1.out.1.cMac 2 (by omega)
  have m3 := H1.out.1.cMac 3 (by omega)
  have m4 := H1.out.1.cMac 4 (by omega)
  have m5 := H1.out.1.cMac 5 (by omega)
  have d0 : w1.cell? ⟨ga, oa + 6, none⟩ = some (.int .u8 (by8 (data.getD 6 0))) := hcell 6 (by omega)
  have d1 : w1.cell? ⟨ga, oa + 6 + 1, none⟩ = some (.int .u8 (by8 (data.getD 7 0))) := hcell 7 (by omega)
  have d2 : w1.cell? ⟨ga, oa + 6 + 2, none⟩ = some (.int .u8 (by8 (data.getD 8 0))) := hcell 8 (by omega)
  have d3 : w1.cell? ⟨ga, oa + 6 + 3, none⟩ = some (.int .u8 (by8 (data.getD 9 0))) := hcell 9 (by omega)
  have d4 : w1.cell? ⟨ga, oa + 6 + 4, none⟩ = some (.int .u8 (by8 (data.getD 10 0))) := hcell 10 (by omega)
  have d5 : w1.cell? ⟨ga, oa + 6 + 5, none⟩ = some (.int .u8 (by8 (data.getD 11 0))) := hcell 11 (by omega)
  have hs1 := six data 6 (by omega)
  have hs2 : c.mac = _ := (by rw [List.drop_zero]; exact (List.take_of_length_le (by rw [H1.out.1.1.mac]; omega)).symm : c.mac = (c.mac.drop 0).take 6).trans (six c.mac 0 (by rw [H1.out.1.1.mac]; omega))
  have HM := Lib.hid (show decide ((data.drop 6).take 6 = c.mac) = decide ([data.getD 6 0, data.getD 7 0, data.getD 8 0, data.getD 9 0, data.getD 10 0, data.getD 11 0] = [c.mac.getD 0 0, c.mac.getD 1 0, c.mac.getD 2 0, c.mac.getD 3 0, c.mac.getD 4 0, c.mac.getD 5 0]) by rw [hs1, ← hs2])
  clear hs1 hs2
  generalize data.getD 6 0 = x0 at *
  generalize c.mac.getD 0 0 = y0 at *
  generalize data.getD 7 0 = x1 at *
  generalize c.mac.getD 1 0 = y1 at *
  generalize data.getD 8 0 = x2 at *
  generalize c.mac.getD 2 0 = y2 at *
  generalize data.getD 9 0 = x3 at *
  generalize c.mac.getD 3 0 = y3 at *
  generalize data.getD 10 0 = x4 at *
  generalize c.mac.getD 4 0 = y4 at *
  generalize data.getD 11 0 = x5 at *
  generalize c.mac.getD 5 0 = y5 at *
  clear hcell hr
  have harr := array_at ga (oa + 6) (cap - 6)
  have HD := Lib.hid (HB.out w1 H1.out.2.1)
  by_cases hm : [x0, x1, x2, x3, x4, x5] = [y0, y1, y2, y3, y4, y5]
  · have heq : ∀ W : World, (Op.equalIn 10000 23 (.agg #[.int .u8 (by8 x0), .int .u8 (by8 x1), .int .u8 (by8 x2), .int .u8 (by8 x3), .int .u8 (by8 x4), .int .u8 (by8 x5)]) (.agg #[.int .u8 (by8 y0), .int .u8 (by8 y1), .int .u8 (by8 y2), .int .u8 (by8 y3), .int .u8 (by8 y4), .int .u8 (by8 y5)])).run Try.prog W = .ok true W := fun W => (equal6 W [x0, x1, x2, x3, x4, x5] [y0, y1, y2, y3, y4, y5] rfl rfl).trans (by rw [hm]; simp)
    have HM2 := Lib.hid (HM.out.trans (decide_eq_true hm))
    clear hm
    by_cases hk : kindP data = 2048
    · have hkb : (kindP data != 2048) = false := by simp [hk]
      have HBad := Lib.hid (show sentBad c ⟨kind, time, ip, till, why, len, some ⟨ga, oa, none⟩, cap, data⟩ = false by unfold sentBad; simp [HM2.out, h60, h15, hk])
      go_quiet ((go_at_call 39; exact Calls.quiet_of (kind_is _ data (by omega) w1 HD.out _)))
      go_upto_region 4 with fail
      refine wp_gen (fun W => LkAt W g c ⟨now, held, sip, stl, under, over, fails, ready, awaited⟩ ∧ Only Nil w W) ⟨H1.out.1.only ((Only.refl Nil w1).drewN nq) id, H1.out.2.1.drewN nq⟩ ?_
      clear H1 e6 d0 d1 d2 d3 d4 d5 m0 m1 m2 m3 m4 m5 harr hsl heq HD HM HM2 hk
      intro w2 h2
      have H2 := Lib.hid h2
      clear h2
      go_upto_region 5 with (go_at_call 24; refine (addressed_any _ data _ (HB.out _ H2.out.2)).mono ?_; rintro r w' ⟨rfl, n, rfl⟩)
      refine wp_gen (fun W => LkAt W g c ⟨now, held, sip, stl, under, over, fails, ready, awaited⟩ ∧ Only Nil w W) ⟨H2.out.1.only ((Only.refl Nil w2).drewN n) id, H2.out.2.drewN n⟩ ?_
      clear H2
      intro w3 h3
      have c2 := h3.1.cHeld
      have c3 := h3.1.cIp
      have HO := Lib.hid h3.2
      clear h3
      cases ha : addrOk data
      · have HP := Lib.hid (show sentP c ⟨now, held, sip, stl, under, over, fails, ready, awaited⟩ ⟨kind, time, ip, till, why, len, some ⟨ga, oa, none⟩, cap, data⟩ = 0 by unfold sentP sentWrong; rw [HBad.out]; simp [ha])
        go_wp2
        go_ret
        exact ⟨by rw [HP.out]; rfl, HO.out⟩
      · by_cases h0 : addrP data = 0
        · have h0b : (addrP data != 0) = false := by simp [h0]
          have HP := Lib.hid (show sentP c ⟨now, held, sip, stl, under, over, fails, ready, awaited⟩ ⟨kind, time, ip, till, why, len, some ⟨ga, oa, none⟩, cap, data⟩ = 0 by unfold sentP sentWrong; rw [HBad.out]; simp [ha, h0])
          go_wp2
          go_ret
          exact ⟨by rw [HP.out]; rfl, HO.out⟩
        · have h0b : (addrP data != 0) = true := by simp [h0]
          cases held
          · have HP := Lib.hid (show sentP c ⟨now, false, sip, stl, under, over, fails, ready, awaited⟩ ⟨kind, time, ip, till, why, len, some ⟨ga, oa, none⟩, cap, data⟩ = 6 by unfold sentP sentWrong; rw [HBad.out]; simp [ha, h0])
            go_wp2
            go_ret
            exact ⟨by rw [HP.out]; rfl, HO.out⟩
          · by_cases hip : addrP data = sip
            · have hib : (addrP data != sip) = false := by simp [hip]
              have HP := Lib.hid (show sentP c ⟨now, true, sip, stl, under, over, fails, ready, awaited⟩ ⟨kind, time, ip, till, why, len, some ⟨ga, oa, none⟩, cap, data⟩ = 0 by unfold sentP sentWrong; rw [HBad.out]; simp [ha, hip])
              go_wp2
              go_ret
              exact ⟨by rw [HP.out]; rfl, HO.out⟩
            · have hib : (addrP data != sip) = true := by simp [hip]
              have HP := Lib.hid (show sentP c ⟨now, true, sip, stl, under, over, fails, ready, awaited⟩ ⟨kind, time, ip, till, why, len, some ⟨ga, oa, none⟩, cap, data⟩ = 6 by unfold sentP sentWrong; rw [HBad.out]; simp [ha, h0, hip])
              go_wp2
              go_ret
              exact ⟨by rw [HP.out]; rfl, HO.out⟩
    · have hkb : (kindP data != 2048) = true := by simp [hk]
      by_cases hk2 : kindP data = 2054
      · have hkc : (kindP data != 2054) = false := by simp [hk2]
        have HBad := Lib.hid (show sentBad c ⟨kind, time, ip, till, why, len, some ⟨ga, oa, none⟩, cap, data⟩ = false by unfold sentBad; simp [HM2.out, h60, h15, hk2])
        go_quiet ((go_at_call 39; exact Calls.quiet_of (kind_is _ data (by omega) w1 HD.out _)))
        go_upto_region 4 with fail
        refine wp_gen (fun W => LkAt W g c ⟨now, held, sip, stl, under, over, fails, ready, awaited⟩ ∧ Only Nil w W) ⟨H1.out.1.only ((Only.refl Nil w1).drewN nq) id, H1.out.2.1.drewN nq⟩ ?_
        clear H1 e6 d0 d1 d2 d3 d4 d5 m0 m1 m2 m3 m4 m5 harr hsl heq HD HM HM2 hk
        intro w2 h2
        have H2 := Lib.hid h2
        clear h2
        go_upto_region 5 with (go_at_call 24; refine (addressed_any _ data _ (HB.out _ H2.out.2)).mono ?_; rintro r w' ⟨rfl, n, rfl⟩)
        refine wp_gen (fun W => LkAt W g c ⟨now, held, sip, stl, under, over, fails, ready, awaited⟩ ∧ Only Nil w W) ⟨H2.out.1.only ((Only.refl Nil w2).drewN n) id, H2.out.2.drewN n⟩ ?_
        clear H2
        intro w3 h3
        have c2 := h3.1.cHeld
        have c3 := h3.1.cIp
        have HO := Lib.hid h3.2
        clear h3
        cases ha : addrOk data
        · have HP := Lib.hid (show sentP c ⟨now, held, sip, stl, under, over, fails, ready, awaited⟩ ⟨kind, time, ip, till, why, len, some ⟨ga, oa, none⟩, cap, data⟩ = 0 by unfold sentP sentWrong; rw [HBad.out]; simp [ha])
          go_wp2
          go_ret
          exact ⟨by rw [HP.out]; rfl, HO.out⟩
        · by_cases h0 : addrP data = 0
          · have h0b : (addrP data != 0) = false := by simp [h0]
            have HP := Lib.hid (show sentP c ⟨now, held, sip, stl, under, over, fails, ready, awaited⟩ ⟨kind, time, ip, till, why, len, some ⟨ga, oa, none⟩, cap, data⟩ = 0 by unfold sentP sentWrong; rw [HBad.out]; simp [ha, h0])
            go_wp2
            go_ret
            exact ⟨by rw [HP.out]; rfl, HO.out⟩
          · have h0b : (addrP data != 0) = true := by simp [h0]
            cases held
            · have HP := Lib.hid (show sentP c ⟨now, false, sip, stl, under, over, fails, ready, awaited⟩ ⟨kind, time, ip, till, why, len, some ⟨ga, oa, none⟩, cap, data⟩ = 6 by unfold sentP sentWrong; rw [HBad.out]; simp [ha, h0])
              go_wp2
              go_ret
              exact ⟨by rw [HP.out]; rfl, HO.out⟩
            · by_cases hip : addrP data = sip
              · have hib : (addrP data != sip) = false := by simp [hip]
                have HP := Lib.hid (show sentP c ⟨now, true, sip, stl, under, over, fails, ready, awaited⟩ ⟨kind, time, ip, till, why, len, some ⟨ga, oa, none⟩, cap, data⟩ = 0 by unfold sentP sentWrong; rw [HBad.out]; simp [ha, hip])
                go_wp2
                go_ret
                exact ⟨by rw [HP.out]; rfl, HO.out⟩
              · have hib : (addrP data != sip) = true := by simp [hip]
                have HP := Lib.hid (show sentP c ⟨now, true, sip, stl, under, over, fails, ready, awaited⟩ ⟨kind, time, ip, till, why, len, some ⟨ga, oa, none⟩, cap, data⟩ = 6 by unfold sentP sentWrong; rw [HBad.out]; simp [ha, h0, hip])
                go_wp2
                go_ret
                exact ⟨by rw [HP.out]; rfl, HO.out⟩
      · have hkc : (kindP data != 2054) = true := by simp [hk2]
        have HP := Lib.hid (show sentP c ⟨now, held, sip, stl, under, over, fails, ready, awaited⟩ ⟨kind, time, ip, till, why, len, some ⟨ga, oa, none⟩, cap, data⟩ = 5 by unfold sentP sentBad; simp [hk, hk2])
        go_quiet ((go_at_call 39; exact Calls.quiet_of (kind_is _ data (by omega) w1 HD.out _)))
        go_wp2
        go_ret
        exact ⟨by rw [HP.out]; rfl, H1.out.2.1.drewN _⟩
  · have heq : ∀ W : World, (Op.equalIn 10000 23 (.agg #[.int .u8 (by8 x0), .int .u8 (by8 x1), .int .u8 (by8 x2), .int .u8 (by8 x3), .int .u8 (by8 x4), .int .u8 (by8 x5)]) (.agg #[.int .u8 (by8 y0), .int .u8 (by8 y1), .int .u8 (by8 y2), .int .u8 (by8 y3), .int .u8 (by8 y4), .int .u8 (by8 y5)])).run Try.prog W = .ok false W := fun W => (equal6 W [x0, x1, x2, x3, x4, x5] [y0, y1, y2, y3, y4, y5] rfl rfl).trans (by simp at hm ⊢; exact hm)
    have HM2 := Lib.hid (HM.out.trans (decide_eq_false hm))
    clear hm
    have HP := Lib.hid (show sentP c ⟨now, held, sip, stl, under, over, fails, ready, awaited⟩ ⟨kind, time, ip, till, why, len, some ⟨ga, oa, none⟩, cap, data⟩ = 5 by unfold sentP sentBad; simp [HM2.out])
    go_quiet (fail)
    go_wp2
    go_ret
    exact ⟨by rw [HP.out]; rfl, H1.out.2.1.drewN _⟩
end Go.Proofs.Ythoaeolohnalnaa
