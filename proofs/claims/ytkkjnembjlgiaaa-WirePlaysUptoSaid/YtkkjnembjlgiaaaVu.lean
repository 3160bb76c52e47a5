/-
  WirePlays: its walk.
-/
import Derived.Test.YtkkjnembjlgiaaaVt
namespace Go.Proofs.Ytkkjnembjlgiaaa
set_option maxRecDepth 100000
open Go.RowKit

theorem OpW.Ok.only {W W' : World} {e : OpW} (h : e.Ok W) (ho : Only Nil W W') : e.Ok W' := ⟨h.reads.only ho fun _ _ e => e, h.fates.only ho fun _ _ _ e => e⟩
theorem OpW.Ok.lt {W : World} {e : OpW} (h : e.Ok W) : (0 < e.bs.length → ∀ k, blkOf e.d = some k → k < W.heap.size) ∧ (0 < e.fs.length → ∀ k, blkOf e.f = some k → k < W.heap.size) := by
  refine ⟨fun h0 k hk => ?_, fun h0 k hk => ?_⟩
  · obtain ⟨g, hg, hl⟩ := h.reads.block h0
    rw [hk] at hg
    injection hg with hg
    omega
  · obtain ⟨A, c, he, _, hr⟩ := h.fates
    obtain ⟨g, o, rfl, hat⟩ := hr h0
    rw [he] at hk
    have e' : g = k := Option.some.inj hk
    have h1 := hat 0 (.bool (e.fs.getD 0 ft0).lost) (by
      have := flatF_get e.fs 0 0 h0 (by omega)
      rw [Nat.zero_mul, Nat.zero_add] at this
      rw [this]
      rfl)
    have := World.block_lt_of_cell? _ _ h1
    rw [← e']
    exact this
set_option maxHeartbeats 40000000 in
theorem plays_any (v : Value) (l : List OpW) (w : World) (hv : OpsW w v l) (hd : ∀ j, j < l.length → (l.getD j opw0).Fit) (hn : l.length ≤ 1048576) :
    Calls Try.prog 4 #[v] w fun e w' => e = .returned (.bool true) ∧ Only Nil w w' := by
  have HV := Lib.hid hv
  have HD := Lib.hid hd
  have HBy := Lib.hid (beyond_any v l w hv hd (by omega))
  obtain ⟨A, c, rfl, _⟩ := id hv
  clear hv hd
  obtain ⟨bb, hbb⟩ : ∃ b, beyW l = b := ⟨_, rfl⟩
  rw [hbb] at HBy
  by_cases hbt : bb = true
  · subst hbt
    clear hbb
    go_enter Try.func4, Try.ntmps4
    go_wp2_with (go_at_call 7; refine HBy.out.mono ?_; rintro e w1 ⟨rfl, ho1⟩)
    go_ret
    exact ⟨rfl, ho1⟩
  obtain rfl : bb = false := by simpa using hbt
  clear hbt hbb
  go_enter Try.func4, Try.ntmps4
  go_upto_region 7 with (first
    | (go_at_call 7; refine HBy.out.mono ?_; rintro e w1 ⟨rfl, ho1⟩; have HO1 := Lib.hid ho1; clear ho1)
    | (go_at_call 6; refine (live_any _).mono ?_; rintro e w2 ⟨rfl, ho2⟩; have HO2 := Lib.hid (HO1.out.then ho2); clear ho2)
    | ((with_reducible show Calls _ _ _ w2 _); go_at_call 8; refine (new_any w2 w.heap.size HO2.out.size).mono ?_; rintro e w3 ⟨b1, F1, rfl, hi1, ho3, hn1⟩; have H1 := Lib.hid (show IsWire _ _ _ _ _ ∧ Only Nil w2 w3 ∧ ∀ k, F1 k → w2.heap.size ≤ k from ⟨hi1, ho3, hn1⟩); clear hi1 ho3 hn1)
    | (go_at_call 8; refine (new_any w3 w.heap.size (Nat.le_trans HO2.out.size H1.out.2.1.size)).mono ?_; rintro e w4 ⟨b2, F2, rfl, hi2, ho4, hn2⟩; have H2 := Lib.hid (show IsWire _ _ _ _ _ ∧ Only Nil w3 w4 ∧ ∀ k, F2 k → w3.heap.size ≤ k from ⟨hi2, ho4, hn2⟩); clear hi2 ho4 hn2))
  have z3 : w.heap.size ≤ w3.heap.size := Nat.le_trans HO2.out.size H1.out.2.1.size
  have z4 : w.heap.size ≤ w4.heap.size := Nat.le_trans z3 H2.out.2.1.size
  go_upto_region 11 with (first
    | ((with_reducible show Calls _ _ _ w4 _); go_at_call 9; refine (rnew_any w4 w.heap.size z4).mono ?_; rintro e w5 ⟨x1, F3, rfl, hi3, ho5, hn3⟩; have H3 := Lib.hid (show IsVire _ _ _ _ _ ∧ Only Nil w4 w5 ∧ ∀ k, F3 k → w4.heap.size ≤ k from ⟨hi3, ho5, hn3⟩); clear hi3 ho5 hn3)
    | (go_at_call 9; refine (rnew_any w5 w.heap.size (Nat.le_trans z4 H3.out.2.1.size)).mono ?_; rintro e w6 ⟨x2, F4, rfl, hi4, ho6, hn4⟩; have H4 := Lib.hid (show IsVire _ _ _ _ _ ∧ Only Nil w5 w6 ∧ ∀ k, F4 k → w5.heap.size ≤ k from ⟨hi4, ho6, hn4⟩); clear hi4 ho6 hn4))
  obtain ⟨bk, hbk⟩ : ∃ b, w6.heap.size = b := ⟨_, rfl⟩
  have HS8 := Lib.hid (show Sea w.heap.size ((w6.alloc (.cells #[.slice none 0 0, .slice none 0 0] 34)).alloc (.cells #[.pointer (some ⟨bk, 0, none⟩), .slice none 0 0, .slice none 0 0] 37)) (bk + 1) bk b1 x1 b2 x2 0 from
    Sea.make (W0 := w2) HO2.out.size H1.out.1 H1.out.2.1 H1.out.2.2 H2.out.1 H2.out.2.1 H2.out.2.2 H3.out.1 H3.out.2.1 H3.out.2.2 H4.out.1 H4.out.2.1 H4.out.2.2 (((Only.refl Nil w6).alloc _).alloc _) (Nat.le_of_eq hbk) ((hbk ▸ Blk.new w6 _ _ : Blk (w6.alloc _) bk _ _).alloc _) (by
      have := Blk.new (w6.alloc (.cells #[.slice none 0 0, .slice none 0 0] 34)) 37 [.pointer (some ⟨bk, 0, none⟩), .slice none 0 0, .slice none 0 0]
      rwa [World.size_alloc, hbk] at this))
  have HO8 := Lib.hid (show Only Nil w ((w6.alloc (.cells #[.slice none 0 0, .slice none 0 0] 34)).alloc (.cells #[.pointer (some ⟨bk, 0, none⟩), .slice none 0 0, .slice none 0 0] 37)) from
    ((((((HO2.out.then H1.out.2.1).then H2.out.2.1).then H3.out.2.1).then H4.out.2.1).alloc _).alloc _))
  clear H1 H2 H3 H4
  go_upto_region 12 with fail
  (try rw [hbk])
  generalize (w6.alloc (.cells #[.slice none 0 0, .slice none 0 0] 34)).alloc (.cells #[.pointer (some ⟨bk, 0, none⟩), .slice none 0 0, .slice none 0 0] 37) = w8 at *
  go_wp2
  go_loopw [10] (fun i wr => ∃ k : Nat, k ≤ l.length ∧ i = .int .i64 k ∧ Sea w.heap.size wr (bk + 1) bk b1 x1 b2 x2 k ∧ Only Nil w wr) (fun i _ => l.length - (intOf i).toNat)
  case atStart => exact ⟨0, Nat.zero_le _, rfl, HS8.out, HO8.out⟩
  case round =>
    obtain ⟨k, hk, rfl, hS, hO⟩ := hrel
    have HS := Lib.hid hS
    have HO := Lib.hid hO
    by_cases hlt : k < l.length
    · obtain ⟨gg, o, rfl, c0, c1, c2, c3, hok⟩ := HV.out.at' k hlt
      have hfit := HD.out k hlt
      have hlts := hok.lt
      generalize l.getD k opw0 = z at *
      have e0 : wr.cell? ⟨gg, o + k * 4, none⟩ = some (.int .i64 z.kind) := hO.cell c0 id
      have e1 : wr.cell? ⟨gg, o + k * 4 + 1, none⟩ = some (.int .i64 z.now) := hO.cell c1 id
      have e2 : wr.cell? ⟨gg, o + k * 4 + 2, none⟩ = some (.slice z.a z.bs.length z.cap) := hO.cell c2 id
      have e3 : wr.cell? ⟨gg, o + k * 4 + 3, none⟩ = some (.slice z.fa z.fs.length z.fcap) := hO.cell c3 id
      have HOK := Lib.hid (hok.only hO)
      have HLT := Lib.hid hlts
      have HFI := Lib.hid hfit
      clear c0 c1 c2 c3 hok hlts hfit hS hO
      have g1 : (k : Int) < (l.length : Int) := by omega
      by_cases hr : (k : Int) % 5 = 4
      · go_wp2_with (go_at_call 10; refine HS.out.second (fun c s r ks H K hk hl => step_any H K hk ⟨by decide, ⟨by decide, by decide⟩, ⟨by decide, by decide⟩⟩ (by omega) (by omega) z HFI.out HOK.out HLT.out.1 HLT.out.2) ?_; intro W2 hS2 ho2; have HS2 := Lib.hid hS2; have HO2' := Lib.hid (HO.out.trans ho2 fun k hk => .inr hk); clear hS2 ho2)
        go_roundw
        case rel => exact ⟨k + 1, by omega, by go_num, HS2.out, HO2'.out⟩
        case measure => simp only [intOf]; omega
      · go_wp2_with (go_at_call 10; refine HS.out.first (fun c s r ks H K hk hl => step_any H K hk ⟨by decide, ⟨by decide, by decide⟩, ⟨by decide, by decide⟩⟩ (by omega) (by omega) z HFI.out HOK.out HLT.out.1 HLT.out.2) ?_; intro W2 hS2 ho2; have HS2 := Lib.hid hS2; have HO2' := Lib.hid (HO.out.trans ho2 fun k hk => .inr hk); clear hS2 ho2)
        go_roundw
        case rel => exact ⟨k + 1, by omega, by go_num, HS2.out, HO2'.out⟩
        case measure => simp only [intOf]; omega
    · have g1 : ¬ (k : Int) < (l.length : Int) := by omega
      clear hS hO
      go_upto_region 22 with (go_at_call 10; refine HS.out.first (fun c s r ks H K hk hl => step_len H K hk _ _ _) ?_; intro W2 hS2 ho2; have HS2 := Lib.hid hS2; have HP2 := Lib.hid (HO.out.trans ho2 fun k hk => .inr hk); clear hS2 ho2)
      go_upto_region 23 with (go_at_call 10; refine HS2.out.second (fun c s r ks H K hk hl => step_len H K hk _ _ _) ?_; intro W3 hS3 ho3; have HS3 := Lib.hid hS3; have HP3 := Lib.hid (HP2.out.trans ho3 fun k hk => .inr hk); clear hS3 ho3)
      go_upto_region 24 with (go_at_call 11; refine (HS3.out.stands (by omega)).mono ?_; rintro e W4 ⟨rfl, ho4, _, hn4⟩; have HN4 := Lib.hid hn4; have HP4 := Lib.hid (HP3.out.trans ho4 fun k hk => .inr hk); clear hn4 ho4)
      obtain ⟨bk2, hbk2⟩ : ∃ b, W4.heap.size = b := ⟨_, rfl⟩
      have HS5 := Lib.hid (HN4.out ((W4.alloc (.cells #[.slice none 0 0, .slice none 0 0] 34)).alloc (.cells #[.pointer (some ⟨bk2, 0, none⟩), .slice none 0 0, .slice none 0 0] 37)) bk2 (((Only.refl Nil W4).alloc _).alloc _) (Nat.le_of_eq hbk2) ((hbk2 ▸ Blk.new W4 _ _ : Blk (W4.alloc _) bk2 _ _).alloc _) (by
        have := Blk.new (W4.alloc (.cells #[.slice none 0 0, .slice none 0 0] 34)) 37 [.pointer (some ⟨bk2, 0, none⟩), .slice none 0 0, .slice none 0 0]
        rwa [World.size_alloc, hbk2] at this))
      have HP5 := Lib.hid ((HP4.out.alloc (.cells #[.slice none 0 0, .slice none 0 0] 34)).alloc (.cells #[.pointer (some ⟨bk2, 0, none⟩), .slice none 0 0, .slice none 0 0] 37))
      clear HN4
      go_upto_region 25 with fail
      (try rw [hbk2])
      generalize (W4.alloc (.cells #[.slice none 0 0, .slice none 0 0] 34)).alloc (.cells #[.pointer (some ⟨bk2, 0, none⟩), .slice none 0 0, .slice none 0 0] 37) = W5 at *
      go_upto_region 26 with (go_at_call 10; refine HS5.out.first (fun c s r ks H K hk hl => step_due H K hk ⟨by decide, ⟨by decide, by decide⟩, ⟨by decide, by decide⟩⟩ (by omega) _ ⟨by decide, by decide⟩ _ _) ?_; intro W6 hS6 ho6; have HS6 := Lib.hid hS6; have HP6 := Lib.hid (HP5.out.trans ho6 fun k hk => .inr hk); clear hS6 ho6)
      go_upto_region 27 with (go_at_call 10; refine HS6.out.second (fun c s r ks H K hk hl => step_due H K hk ⟨by decide, ⟨by decide, by decide⟩, ⟨by decide, by decide⟩⟩ (by omega) _ ⟨by decide, by decide⟩ _ _) ?_; intro W7 hS7 ho7; have HS7 := Lib.hid hS7; have HP7 := Lib.hid (HP6.out.trans ho7 fun k hk => .inr hk); clear hS7 ho7)
      go_upto_region 28 with (go_at_call 11; refine (HS7.out.stands (by omega)).mono ?_; rintro e W8 ⟨rfl, ho8, hd8, _⟩; have HD8 := Lib.hid hd8; have HP8 := Lib.hid (HP7.out.trans ho8 fun k hk => .inr hk); clear hd8 ho8)
      obtain ⟨cc, s1, r1, s2, r2, hh1, _⟩ := HD8.out.ex
      have HL := Lib.hid (fun (kb : Nat) (t y z : Value) => step_len0 (kb := kb) hh1 t y z)
      clear hh1
      go_wp2_with (go_at_call 10; refine (HL.out _ _ _ _).mono ?_; rintro e W9 ⟨rfl, ho9⟩; have HP9 := Lib.hid (HP8.out.then ho9); clear ho9)
      go_ret
      exact ⟨rfl, HP9.out⟩
end Go.Proofs.Ytkkjnembjlgiaaa
