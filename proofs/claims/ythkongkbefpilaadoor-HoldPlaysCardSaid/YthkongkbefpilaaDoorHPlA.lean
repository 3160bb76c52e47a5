/-
  HoldPlays: its walk.
-/
import Derived.Test.YthkongkbefpilaaDoorHpl
namespace Go.Proofs.YthkongkbefpilaaDoor
set_option maxRecDepth 100000
open Go.RowKit Sha

/-- The bounds are in their range. -/
def Fits (most : Int) : Prop := 0 ≤ most ∧ most ≤ 16777216
section
variable {B : Nat} {a0 a1 : Addr} {W1 W2 W3 W4 W5 W6 : World} {h x g y : Nat} {s t : HS}
/-- What four times New leaves: two pairs. -/
theorem Two.make {W0 : World} (h0 : B ≤ W0.heap.size) (he : Errs B a0 a1 W0) (i1 : IsHold B W1 (fun k => W0.heap.size ≤ k ∧ k < W1.heap.size) h s) (o1 : Only Nil W0 W1) (i2 : IsRef B W2 (fun k => W1.heap.size ≤ k ∧ k < W2.heap.size) x s) (o2 : Only Nil W1 W2)
    (i3 : IsHold B W3 (fun k => W2.heap.size ≤ k ∧ k < W3.heap.size) g t) (o3 : Only Nil W2 W3) (i4 : IsRef B W4 (fun k => W3.heap.size ≤ k ∧ k < W4.heap.size) y t) (o4 : Only Nil W3 W4) {W5 : World} (o5 : Only Nil W4 W5) {kb : Nat} (hk : W4.heap.size ≤ kb) (hb : Blk W5 kb 39 [.slice none 0 0, .slice none 0 0]) : Two B a0 a1 W5 kb h x g y [] := by
  have n : ∀ {k : Nat}, ¬ Nil k := fun e => e
  have z1 := o1.size
  have z2 := o2.size
  have z3 := o3.size
  have z4 := o4.size
  refine ⟨⟨_, _, One kb, _, _, s, t, ⟨⟨(((i1.only o2 fun _ _ => n).only o3 fun _ _ => n).only o4 fun _ _ => n).only o5 fun _ _ => n, ((i2.only o3 fun _ _ => n).only o4 fun _ _ => n).only o5 fun _ _ => n, fun k e1 e2 => by omega⟩, IsBook.new (by omega) hb, fun k e hk => ?_, ((((he.only o1 fun _ e => e.elim).only o2 fun _ e => e.elim).only o3 fun _ e => e.elim).only o4 fun _ e => e.elim).only o5 fun _ e => e.elim, by simp⟩, ⟨(i3.only o4 fun _ _ => n).only o5 fun _ _ => n, i4.only o5 fun _ _ => n, fun k e1 e2 => by omega⟩, fun k e1 e2 => ?_⟩, fun _ h => by cases h⟩
  · have : k = kb := e
    omega
  · rcases e2 with e2 | e2 | e2
    · omega
    · omega
    · have : k = kb := e2
      omega
end
set_option maxHeartbeats 40000000 in
theorem plays_in {a0 a1 : Addr} (most other : Int) (want another : List UInt8) (hw : want.length = 32) (hw2 : another.length = 32) (hm : Fits most) (hm2 : Fits other) (v : Value) (l : List OpV) (w : World) (he : Errs w.heap.size a0 a1 w) (hv : Ops w v l) (hd : ∀ j, j < l.length → (l.getD j op0).bs.length ≤ 140737488355328) (hn : l.length ≤ 1000000000000000) :
    Calls Tryd.prog 5 #[.int .i64 most, .agg (BC want).toArray, .int .i64 other, .agg (BC another).toArray, v] w fun e w' => e = .returned (.bool true) ∧ Only Nil w w' := by
  have hz : (BC want).toArray.size = 32 := by rw [List.size_toArray, BC_length, hw]
  have hz2 : (BC another).toArray.size = 32 := by rw [List.size_toArray, BC_length, hw2]
  obtain ⟨n, hn0⟩ : ∃ b, w.heap.size = b := ⟨_, rfl⟩
  obtain ⟨w2, hw20⟩ : ∃ w2, w2 = (w.alloc (.cells (BC want).toArray 23)).alloc (.cells (BC another).toArray 23) := ⟨_, rfl⟩
  have HA0 := Lib.hid (show Only Nil w w2 from hw20 ▸ ((Only.refl Nil w).alloc _).alloc _)
  have HB1 := Lib.hid (show Blk w2 n 23 (BC want) from hw20 ▸ (hn0 ▸ Blk.new w _ _ : Blk (w.alloc _) n _ _).alloc _)
  have HB2 := Lib.hid (show Blk w2 (n + 1) 23 (BC another) from by
    have := Blk.new (w.alloc (.cells (BC want).toArray 23)) 23 (BC another)
    rw [World.size_alloc, hn0] at this
    rw [hw20]
    exact this)
  have HE := Lib.hid he
  have HV := Lib.hid hv
  have HL := Lib.hid (live_any (a0 := a0) (a1 := a1) w2 ((HE.out.only HA0.out fun _ e => e.elim).up HA0.out.size))
  have HBy := Lib.hid (beyond_any v l w2 (hv.only HA0.out) hd hn)
  have HW2 := Lib.hid hw20
  have HD := Lib.hid hd
  clear he hv hw20 hd
  obtain ⟨bb, hbb⟩ : ∃ b, beyE l = b := ⟨_, rfl⟩
  rw [hbb] at HBy
  by_cases hbt : bb = true
  · subst hbt
    go_enter Tryd.func5, Tryd.ntmps5
    go_upto_region 1 with fail
    rw [← HW2.out]
    go_wp2_with (go_at_call 12; refine HBy.out.mono ?_; rintro e w' ⟨rfl, rfl⟩)
    go_ret
    exact ⟨rfl, HA0.out⟩
  obtain rfl : bb = false := by simpa using hbt
  obtain ⟨hbn, hcost⟩ := beyE_false hbb
  clear hbt hbb
  go_enter Tryd.func5, Tryd.ntmps5
  go_upto_region 1 with fail
  rw [← HW2.out]
  (try rw [hn0])
  go_upto_region 5 with (first
    | (go_at_call 12; refine HBy.out.mono ?_; rintro e w' ⟨rfl, rfl⟩)
    | (go_at_call 7; refine HL.out.mono ?_; rintro e w3 ⟨rfl, ho3⟩))
  have HO3 := Lib.hid ho3
  have HBW := Lib.hid (show w.heap.size ≤ w3.heap.size from Nat.le_trans HA0.out.size ho3.size)
  clear ho3 HL HBy HW2
  go_upto_region 6 with (first
    | ((with_reducible show wpList _ _ _ (Oper.mk _ (.load 23 _) _ _ _ _ :: _) _ _); refine wpList_load_row rfl 23 (.tmp 6) rfl n rfl 23 (BC want).toArray (0, 0) _ (HO3.out.blk HB1.out id) Tryd.underlying23 rfl (by rw [hz]; kernel_rfl) ?_)
    | (go_at_call 8; refine (New_some most want hw hm.1 hm.2 w3 w.heap.size HBW.out).mono ?_; rintro e w4 ⟨h, rfl, hi4, ho4, _⟩))
  have HI4 := Lib.hid hi4
  have HO4 := Lib.hid ho4
  have HBW4 := Lib.hid (Nat.le_trans HBW.out ho4.size)
  clear hi4 ho4
  go_upto_region 7 with (first
    | ((with_reducible show wpList _ _ _ (Oper.mk _ (.load 23 _) _ _ _ _ :: _) _ _); refine wpList_load_row rfl 23 (.tmp 6) rfl n rfl 23 (BC want).toArray (0, 0) _ ((HO3.out.then HO4.out).blk HB1.out id) Tryd.underlying23 rfl (by rw [hz]; kernel_rfl) ?_)
    | (go_at_call 13; refine (rNew_some most want hw hm.1 hm.2 w4 w.heap.size HBW4.out).mono ?_; rintro e w5 ⟨x, rfl, hi5, ho5, _⟩))
  have HI5 := Lib.hid hi5
  have HO5 := Lib.hid ho5
  have HBW5 := Lib.hid (Nat.le_trans HBW4.out ho5.size)
  clear hi5 ho5
  go_upto_region 8 with (first
    | ((with_reducible show wpList _ _ _ (Oper.mk _ (.load 23 _) _ _ _ _ :: _) _ _); refine wpList_load_row rfl 23 (.tmp 8) rfl (n + 1) rfl 23 (BC another).toArray (0, 0) _ (((HO3.out.then HO4.out).then HO5.out).blk HB2.out id) Tryd.underlying23 rfl (by rw [hz2]; kernel_rfl) ?_)
    | (go_at_call 8; refine (New_some other another hw2 hm2.1 hm2.2 w5 w.heap.size HBW5.out).mono ?_; rintro e w6 ⟨g, rfl, hi6, ho6, _⟩))
  have HI6 := Lib.hid hi6
  have HO6 := Lib.hid ho6
  have HBW6 := Lib.hid (Nat.le_trans HBW5.out ho6.size)
  clear hi6 ho6
  go_upto_region 9 with (first
    | ((with_reducible show wpList _ _ _ (Oper.mk _ (.load 23 _) _ _ _ _ :: _) _ _); refine wpList_load_row rfl 23 (.tmp 8) rfl (n + 1) rfl 23 (BC another).toArray (0, 0) _ ((((HO3.out.then HO4.out).then HO5.out).then HO6.out).blk HB2.out id) Tryd.underlying23 rfl (by rw [hz2]; kernel_rfl) ?_)
    | (go_at_call 13; refine (rNew_some other another hw2 hm2.1 hm2.2 w6 w.heap.size HBW6.out).mono ?_; rintro e w7 ⟨y, rfl, hi7, ho7, _⟩))
  have HI7 := Lib.hid hi7
  have HO7 := Lib.hid ho7
  clear hi7 ho7
  obtain ⟨kb, hkb⟩ : ∃ b, w7.heap.size = b := ⟨_, rfl⟩
  have HT8 := Lib.hid (show Two w.heap.size a0 a1 (w7.alloc (.cells #[.slice none 0 0, .slice none 0 0] 39)) kb h x g y [] from
    Two.make (W0 := w3) HBW.out (HE.out.only (HA0.out.then HO3.out) fun _ e => e.elim) HI4.out HO4.out HI5.out HO5.out HI6.out HO6.out HI7.out HO7.out ((Only.refl Nil w7).alloc _) (Nat.le_of_eq hkb) (hkb ▸ Blk.new w7 _ _))
  have HO8 := Lib.hid (show Only Nil w (w7.alloc (.cells #[.slice none 0 0, .slice none 0 0] 39)) from (((((HA0.out.then HO3.out).then HO4.out).then HO5.out).then HO6.out).then HO7.out).alloc _)
  clear HI4 HI5 HI6 HI7
  go_upto_region 12 with fail
  (try rw [hkb])
  generalize w7.alloc (.cells #[.slice none 0 0, .slice none 0 0] 39) = w8 at *
  obtain ⟨A, c, rfl, _⟩ := id HV.out
  go_wp2
  go_loopw [18] (fun i wr => ∃ (k : Nat) (ls : List Ls), k ≤ l.length ∧ i = .int .i64 k ∧ Two w.heap.size a0 a1 wr kb h x g y ls ∧ ls.length ≤ k ∧ Only Nil w wr) (fun i _ => l.length - (intOf i).toNat)
  case atStart => exact ⟨0, [], Nat.zero_le _, rfl, HT8.out, Nat.le_refl _, HO8.out⟩
  case round =>
    obtain ⟨k, ls, hk, rfl, hT, hls, hO⟩ := hrel
    have HT := Lib.hid hT
    have HO := Lib.hid hO
    by_cases hlt : k < l.length
    · obtain ⟨gg, o, rfl, c0, c1, hrb⟩ := HV.out.at' k hlt
      have hdl := HD.out k hlt
      have hrl := hrb.lt
      generalize l.getD k op0 = z at *
      obtain ⟨kind, xa, xc, bs⟩ := z
      have hdl : bs.length ≤ 140737488355328 := hdl
      have HRL := Lib.hid (show 0 < bs.length → ∀ k, blkOf (.slice xa bs.length xc) = some k → k < w.heap.size from hrl)
      have e0 : wr.cell? ⟨gg, o + k * 2, none⟩ = some (.int .i64 kind) := hO.cell c0 id
      have e1 : wr.cell? ⟨gg, o + k * 2 + 1, none⟩ = some (.slice xa bs.length xc) := hO.cell c1 id
      have HRB := Lib.hid (show RB wr (.slice xa bs.length xc) bs from RB.only hrb hO fun _ _ e => e)
      clear hrb hrl c0 c1 hT hO
      have g1 : (k : Int) < (l.length : Int) := by omega
      by_cases hr : (k : Int) % 4 = 3
      · go_wp2_with (go_at_call 14; refine HT.out.swap.after (fun FH FX FK s S0 => step_any S0 kind xa xc bs HRB.out hdl HRL.out) (by omega) ?_; intro W2 ls2 hT2 hl2 ho2; have HT2 := Lib.hid hT2.swap; have HO2 := Lib.hid ho2; clear hT2 ho2)
        go_roundw
        case rel => exact ⟨k + 1, ls2, by omega, by go_num, HT2.out, by omega, HO.out.trans HO2.out fun k hk => .inr hk⟩
        case measure => simp only [intOf]; omega
      · go_wp2_with (go_at_call 14; refine HT.out.after (fun FH FX FK s S0 => step_any S0 kind xa xc bs HRB.out hdl HRL.out) (by omega) ?_; intro W2 ls2 hT2 hl2 ho2; have HT2 := Lib.hid hT2; have HO2 := Lib.hid ho2; clear hT2 ho2)
        go_roundw
        case rel => exact ⟨k + 1, ls2, by omega, by go_num, HT2.out, by omega, HO.out.trans HO2.out fun k hk => .inr hk⟩
        case measure => simp only [intOf]; omega
    · have g1 : ¬ (k : Int) < (l.length : Int) := by omega
      clear hT hO
      go_upto_region 22 with (go_at_call 15; refine HT.out.after (fun FH FX FK s S0 => last_any S0 (by omega)) (by omega) ?_; intro W2 ls2 hT2 hl2 ho2; have HT2 := Lib.hid hT2.swap; have HO2 := Lib.hid (HO.out.trans ho2 fun k hk => .inr hk); clear hT2 ho2)
      go_upto_region 23 with (go_at_call 15; refine HT2.out.after (fun FH FX FK s S0 => last_any S0 (by omega)) (by omega) ?_; intro W3 ls3 hT3 hl3 ho3; have HT3 := Lib.hid hT3.swap; have HO3 := Lib.hid (HO2.out.trans ho3 fun k hk => .inr hk); clear hT3 ho3)
      go_upto_region 24 with (go_at_call 16; refine HT3.out.owned.mono ?_; rintro e W4 ⟨rfl, ho4, hT4⟩; have HO4 := Lib.hid (HO3.out.trans ho4 fun k hk => .inr hk); have HT4 := Lib.hid hT4; clear ho4 hT4)
      obtain ⟨kb2, hkb2⟩ : ∃ b, W4.heap.size = b := ⟨_, rfl⟩
      have HT5 := Lib.hid (HT4.out (W4.alloc (.cells #[.slice none 0 0, .slice none 0 0] 39)) kb2 ((Only.refl Nil W4).alloc _) (Nat.le_of_eq hkb2) (hkb2 ▸ Blk.new W4 _ _))
      have HO5 := Lib.hid (HO4.out.alloc (.cells #[.slice none 0 0, .slice none 0 0] 39))
      go_upto_region 25 with fail
      (try rw [hkb2])
      generalize W4.alloc (.cells #[.slice none 0 0, .slice none 0 0] 39) = W5 at *
      go_upto_region 26 with (go_at_call 15; refine HT5.out.after (fun FH FX FK s S0 => last_any S0 (by simp)) (by simp) ?_; intro W6 ls6 hT6 hl6 ho6; have HT6 := Lib.hid hT6.swap; have HO6 := Lib.hid (HO5.out.trans ho6 fun k hk => .inr hk); clear hT6 ho6)
      go_wp2_with (go_at_call 15; refine HT6.out.after (fun FH FX FK s S0 => last_any S0 (by simp at hl6; omega)) (by simp at hl6; omega) ?_; intro W7 ls7 hT7 hl7 ho7; have HO7 := Lib.hid (HO6.out.trans ho7 fun k hk => .inr hk); clear hT7 ho7)
      go_ret
      exact ⟨rfl, HO7.out⟩
end Go.Proofs.YthkongkbefpilaaDoor
