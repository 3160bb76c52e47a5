/-
  Put: a frame is laid onto the wire as its fate says.
-/
import Derived.Test.YtkkjnembjlgiaaaWg
import Derived.Deep.CutBlock
import Derived.BigQuiet
namespace Go.Proofs.Ytkkjnembjlgiaaa
set_option maxRecDepth 100000
open Go.RowKit

def sentP (s : WS) (n : Int) : WS := { moveP s n with fates := s.fates.tail }
def putR (s : WS) (n : Int) (bs : List UInt8) (s' : WS) : Prop :=
  if (s.fates.headD ft0).lost = true then s' = { sentP s n with lost := s.lost + 1 }
  else ∃ s3, layR (sentP s n) (sumZ (sentP s n).now (s.fates.headD ft0).delay) bs s3 ∧ if 0 < (s.fates.headD ft0).twin then layR s3 (sumZ (sumZ (sentP s n).now (s.fates.headD ft0).delay) (s.fates.headD ft0).twin) bs s' else s' = s3
structure Apart (w : World) (F : Nat → Prop) (v : Value) (bs : List UInt8) : Prop where
  reads : RB w v bs
  far : 0 < bs.length → ∀ k, blkOf v = some k → ¬ F k
section
variable {B : Nat} {w w' w1 w2 w3 : World} {F F' S : Nat → Prop} {b : Nat} {v vw vf v' : Value} {bs : List UInt8} {s s' : WS}
theorem Apart.next (h : Apart w F v bs) (ho : Only F w w') (hF : ∀ k, F' k → F k ∨ w.heap.size ≤ k) : Apart w' F' v bs := by
  refine ⟨h.reads.off ho h.far, fun h0 k hk e => ?_⟩
  rcases hF k e with h1 | h1
  · exact h.far h0 k hk h1
  · obtain ⟨g, hg, hl⟩ := h.reads.block h0
    rw [hk] at hg
    injection hg with hg
    omega
theorem OwF.slice {l : List Ft} (h : OwF B w v l) : ∃ A c, v = .slice A l.length c := by
  rcases h with ⟨h1, h2⟩ | ⟨g, o, cap, cs, h1, _⟩
  · exact ⟨none, 0, by rw [h1, h2]; rfl⟩
  · exact ⟨_, _, h1⟩
theorem OwF.tail {g o cap : Nat} {l : List Ft} (h : OwF B w (.slice (some ⟨g, o, none⟩) l.length cap) l) (h0 : 0 < l.length) : OwF B w (.slice (if cap = 1 then some ⟨g, o, none⟩ else some ⟨g, o + 3, none⟩) (l.length - 1) (cap - 1)) l.tail := by
  rcases h with ⟨h1, _⟩ | ⟨g', o', cap', cs, hv, hB, hb, hl, hm, hs, ht⟩
  · cases h1
  · injection hv with e1 _ e3
    injection e1 with e1
    injection e1 with e1 e2
    subst e1 e2 e3
    have htl : l.tail.length = l.length - 1 := by simp
    by_cases hc : cap = 1
    · have hnil : l.tail = [] := List.eq_nil_of_length_eq_zero (by omega)
      refine .inr ⟨g, o, cap - 1, cs, by rw [if_pos hc, htl], hB, hb, by omega, by omega, by omega, ?_⟩
      rw [hnil]
      simp [flatF]
    · refine .inr ⟨g, o + 3, cap - 1, cs, by rw [if_neg hc, htl], hB, hb, by omega, by omega, by omega, ?_⟩
      cases l with
      | nil => simp at h0
      | cons x r =>
        have hx : flatF (x :: r) = x.cells ++ flatF r := rfl
        rw [hx] at ht
        have h3 : x.cells.length = 3 := rfl
        have h4 : (x.cells ++ flatF r).drop 3 = flatF r := by rw [← h3, List.drop_left]
        rw [List.tail_cons, ← h4, ← ht, List.drop_take, List.drop_drop, List.length_cons, show (r.length + 1) * 3 - 3 = r.length * 3 by omega]
theorem WireAt.tailF (hA : WireAt B w F b vw vf s) {v5 : Value} (hv5 : OwF B w v5 s.fates.tail) (hvb : ∀ k, v5.ownBlock = some k → vf.ownBlock = some k) : WireAt B (w.setCell ⟨b, 4, none⟩ v5) F b vw v5 { s with fates := s.fates.tail } := by
  have ho : Only (One b) w (w.setCell ⟨b, 4, none⟩ v5) := (Only.refl _ _).setCell (p := ⟨b, 4, none⟩) (.inl (One.self b)) v5
  refine ⟨hA.blk.set 4 v5, ?_, ?_, ?_, hA.far, ⟨hA.foot.1, hA.foot.2.1, fun k hk => hA.foot.2.2.1 k (hvb k hk), hA.foot.2.2.2⟩⟩
  · exact ownN_only hA.ways ho fun k hk e => ownN_far hA.ways hA.blk wire_ne_way (by rw [hk, show k = b from e])
  · exact hv5.only ho fun k hk e => fate_far hv5 hA.blk (by decide) (by rw [hk, show k = b from e])
  · exact fun e he => own_only (hA.each e he) ho fun k hk e' => ownN_far (hA.each e he) hA.blk (by decide) (by rw [hk, show k = b from e'])
theorem Fit.sent (h : Fit s) (n : Int) : Fit (sentP s n) := by
  refine ⟨?_, h.laid, h.lost⟩
  have := h.now
  show 0 ≤ min (max n s.now) 1125899906842624 ∧ min (max n s.now) 1125899906842624 ≤ 1125899906842624
  omega
theorem layR_fit {due : Int} (h : layR s due bs s') (hf : Fit s) (hl : s.laid ≤ 900000000000100 ∧ s.lost ≤ 900000000000100) : Fit s' ∧ s'.now = s.now ∧ s'.laid ≤ s.laid + 1 ∧ s'.lost ≤ s.lost + 1 := by
  have h1 := hf.laid
  have h2 := hf.lost
  unfold layR at h
  split at h
  · subst h
    exact ⟨⟨hf.now, h1, by show 0 ≤ s.lost + 1 ∧ s.lost + 1 ≤ _; omega⟩, rfl, by show s.laid ≤ _; omega, Int.le_refl _⟩
  · obtain ⟨a, c, rfl⟩ := h
    exact ⟨⟨hf.now, by show 0 ≤ s.laid + 1 ∧ s.laid + 1 ≤ _; omega, h2⟩, rfl, Int.le_refl _, by show s.lost ≤ _; omega⟩
theorem Did.from' (ho : Only F w w1) (hF : ∀ k, F' k → F k ∨ w.heap.size ≤ k) (hd : Did B w1 F' b s' w') : Did B w F b s' w' := by
  obtain ⟨F2, h, hF2⟩ := hd.wire
  exact ⟨⟨F2, h, fun k hk => (hF2 k hk).elim (hF k) fun h => .inr (Nat.le_trans ho.size h)⟩, ho.trans hd.only hF⟩
set_option maxHeartbeats 3200000 in
theorem put_any (h : IsWire B w F b s) (hf : Fit s) (hfb : s.laid ≤ 900000000000000 ∧ s.lost ≤ 900000000000000) (n : Int) (hn : -9223372036854775808 ≤ n ∧ n ≤ 9223372036854775807) (v : Value) (bs : List UInt8) (hv : Apart w F v bs) (hl : bs.length ≤ 140737488355328) :
    Calls Try.prog 13 #[.pointer (some ⟨b, 0, none⟩), .int .i64 n, v] w fun e w' => e = .returned (.tuple #[]) ∧ ∃ s', putR s n bs s' ∧ Did B w F b s' w' := by
  have HFb := Lib.hid hfb
  have hft := hf.sent n
  have HF := Lib.hid hft
  have HH := Lib.hid h
  have HV := Lib.hid hv
  have hmv := move_any h n hn
  obtain ⟨A', cap', rfl, _⟩ := hv.reads.form
  clear h hv hf hft hfb
  go_enter Try.func13, Try.ntmps13
  go_upto_region 1 with (go_at_call 30; refine hmv.mono ?_; rintro e w1 ⟨rfl, hd1⟩)
  have HD1 := Lib.hid hd1
  obtain ⟨F1, hw1, hF1⟩ := hd1.wire
  have HA1 := Lib.hid (HV.out.next hd1.only hF1)
  obtain ⟨bf, hbf⟩ : ∃ x, w1.heap.size = x := ⟨_, rfl⟩
  have HBF := Lib.hid (show ¬ F1 bf from fun e => by have := (hw1.own bf e).2; omega)
  have hsz1 := hd1.only.size
  have HF1 := Lib.hid hF1
  go_upto_region 2 with fail
  refine wp_gen (fun W => IsWire B W F1 b (moveP s n) ∧ Only Nil w1 W ∧ Blk W bf 46 [.bool false, .int .i64 0, .int .i64 0]) ⟨hw1.only ((Only.refl Nil w1).alloc _) fun _ _ e => e, (Only.refl Nil w1).alloc _, hbf ▸ Blk.new w1 _ _⟩ ?_
  clear hmv hw1 hd1 hF1
  rintro w2 ⟨hw2, ho2, hb2⟩
  obtain ⟨vw, vf, hA2⟩ := hw2.at'
  have c4 := hA2.c4
  have HW2 := Lib.hid hw2
  have HO2 := Lib.hid ho2
  have HB2 := Lib.hid hb2
  have HA2 := Lib.hid hA2
  have hfe : (moveP s n).fates = s.fates := rfl
  have hff := hA2.fates
  rw [hfe] at hff
  clear hfe hw2 ho2
  obtain ⟨f, hfd⟩ : ∃ f, s.fates.headD ft0 = f := ⟨_, rfl⟩
  have HFD := Lib.hid hfd
  clear hfd
  have HFF := Lib.hid hff
  obtain ⟨A4, cap4, hv0⟩ := hff.slice
  have HV0 := Lib.hid hv0
  rw [hv0] at c4
  clear hff hv0 hA2 hb2
  go_upto_if 16 with fail
  go_cut [] (fun wx => (∃ F', IsWire B wx F' b (sentP s n) ∧ ∀ k, F' k → F1 k) ∧ Only (fun k => F1 k ∨ k = bf) w2 wx ∧ Blk wx bf 46 [.bool f.lost, .int .i64 f.delay, .int .i64 f.twin])
  case first =>
    by_cases h0 : s.fates = []
    · have d0 : decide (0 < s.fates.length) = false := by rw [h0]; rfl
      have hf0 : f = ft0 := by rw [← HFD.out, h0]; rfl
      have hs0 : sentP s n = moveP s n := by unfold sentP; rw [h0]; show _ = moveP s n; unfold moveP; rw [h0]; rfl
      have HF0 := Lib.hid hf0
      have HS0 := Lib.hid hs0
      rw [d0]
      clear h0 d0 hf0 hs0
      go_wp2
      go_meet
      exact ⟨by rw [HS0.out]; exact ⟨F1, HW2.out, fun _ hk => hk⟩, Only.refl _ _, by rw [HF0.out]; exact HB2.out⟩
    · have hl0 : 0 < s.fates.length := by cases hq : s.fates with | nil => exact absurd hq h0 | cons x r => simp
      have d0 : decide (0 < s.fates.length) = true := by simp [hl0]
      rcases HFF.out with ⟨_, h1⟩ | ⟨g, o, cap, cs, hv1, hBg, hbg, hcl, hcm, hcs, hct⟩
      · exact absurd h1 h0
      · obtain ⟨rfl, rfl⟩ : A4 = some ⟨g, o, none⟩ ∧ cap4 = cap := by
          have := HV0.out.symm.trans hv1
          injection this with e1 _ e3
          exact ⟨e1, e3⟩
        have hcell : ∀ i, i < 3 → w2.cell? ⟨g, o + i, none⟩ = f.cells[i]? := fun i hi => by
          rw [hbg.cell]
          have h5 : cs[o + i]? = ((cs.drop o).take (s.fates.length * 3))[i]? := by rw [List.getElem?_take_of_lt (by omega), List.getElem?_drop]
          rw [h5, hct, ← HFD.out]
          cases hq : s.fates with
          | nil => exact absurd hq h0
          | cons x r =>
            show (x.cells ++ flatF r)[i]? = x.cells[i]?
            rw [List.getElem?_append_left (by exact hi)]
        have g0 : w2.cell? ⟨g, o, none⟩ = some (.bool f.lost) := hcell 0 (by omega)
        have g1 : w2.cell? ⟨g, o + 1, none⟩ = some (.int .i64 f.delay) := hcell 1 (by omega)
        have g2 : w2.cell? ⟨g, o + 2, none⟩ = some (.int .i64 f.twin) := hcell 2 (by omega)
        have f4 := HA2.out.blk.free 4
        have fb := HB2.out.free
        have b0 : w2.cell? ⟨bf, 0, none⟩ = some (.bool false) := HB2.out.cell 0
        have b1 : w2.cell? ⟨bf, 1, none⟩ = some (.int .i64 0) := HB2.out.cell 1
        have b2 : w2.cell? ⟨bf, 2, none⟩ = some (.int .i64 0) := HB2.out.cell 2
        obtain ⟨l, hl⟩ : ∃ l, s.fates.length = l := ⟨_, rfl⟩
        have HLN := Lib.hid hl
        rw [hl] at hl0 d0 c4 ⊢
        rw [d0]
        have hl1 : (0 : Int) < (l : Int) := by omega
        clear hcell hl hct h0 hv1 d0
        go_upto_region 3 with fail
        go_region
        have hof : OwF B w2 (.slice (some ⟨g, o, none⟩) s.fates.length cap4) s.fates := by rw [← HV0.out]; exact HFF.out
        have hv5 := hof.tail (by rw [HLN.out]; exact hl0)
        rw [HLN.out] at hv5
        have hvb : ∀ k, (Value.slice (if cap4 = 1 then some ⟨g, o, none⟩ else some ⟨g, o + 3, none⟩) (l - 1) (cap4 - 1)).ownBlock = some k → vf.ownBlock = some k := fun k hk => by
          rw [HV0.out]
          by_cases hc : cap4 = 1
          · rw [if_pos hc] at hk
            exact hk
          · rw [if_neg hc] at hk
            exact hk
        generalize hv6 : Value.slice (if cap4 = 1 then some ⟨g, o, none⟩ else some ⟨g, o + 3, none⟩) (l - 1) (cap4 - 1) = v5 at *
        have hoB : Only (One bf) w2 (((w2.setCell ⟨bf, 0, none⟩ (.bool f.lost)).setCell ⟨bf, 1, none⟩ (.int .i64 f.delay)).setCell ⟨bf, 2, none⟩ (.int .i64 f.twin)) :=
          (((Only.refl _ _).setCell (p := ⟨bf, 0, none⟩) (.inl (One.self bf)) _).setCell (p := ⟨bf, 1, none⟩) (.inl (One.self bf)) _).setCell (p := ⟨bf, 2, none⟩) (.inl (One.self bf)) _
        have hbB := ((HB2.out.set 0 (.bool f.lost)).set 1 (.int .i64 f.delay)).set 2 (.int .i64 f.twin)
        have hfar : ∀ k, F1 k → ¬ One bf k := fun k hk e => HBF.out (by rw [← show k = bf from e]; exact hk)
        have hne : bf ≠ b := fun e => HBF.out (by rw [e]; exact HA2.out.foot.1)
        have hA3 := HA2.out.only hoB hfar
        have hlow : bf < w2.heap.size := HB2.out.lt
        have hbk := hbB.far (p := ⟨b, 4, none⟩) hne v5
        have hA4 := hA3.tailF (v5 := v5) (hv5.only hoB fun k hk e => hfar k (HA2.out.foot.2.2.1 k (hvb k hk)) e) hvb
        have hW2 := HW2.out
        have hkeep : Only (fun k => F1 k ∨ k = bf) w2 ((((w2.setCell ⟨bf, 0, none⟩ (.bool f.lost)).setCell ⟨bf, 1, none⟩ (.int .i64 f.delay)).setCell ⟨bf, 2, none⟩ (.int .i64 f.twin)).setCell ⟨b, 4, none⟩ v5) := (hoB.mono fun k _ e => .inr e).setCell (p := ⟨b, 4, none⟩) (.inl (.inl HA2.out.foot.1)) _
        clear c4 g0 g1 g2 f4 fb b0 b1 b2 hbB hoB
        generalize ((((w2.setCell ⟨bf, 0, none⟩ (.bool f.lost)).setCell ⟨bf, 1, none⟩ (.int .i64 f.delay)).setCell ⟨bf, 2, none⟩ (.int .i64 f.twin)).setCell ⟨b, 4, none⟩ v5) = w3 at *
        have HX := Lib.hid (show (∃ F', IsWire B w3.drew F' b (sentP s n) ∧ ∀ k, F' k → F1 k) ∧ Only (fun k => F1 k ∨ k = bf) w2 w3.drew ∧ Blk w3.drew bf 46 [.bool f.lost, .int .i64 f.delay, .int .i64 f.twin] from ⟨⟨F1, IsWire.only ⟨⟨vw, v5, hA4⟩, fun k hk => ⟨(hW2.own k hk).1, Nat.lt_of_lt_of_le (hW2.own k hk).2 hkeep.size⟩, Nat.le_trans hW2.base hkeep.size⟩ ((Only.refl Nil w3).drew) fun _ _ e => e, fun _ h => h⟩, hkeep.drew, hbk.drew⟩)
        clear hof hv5 hvb hfar hA3 hbk hA4 hkeep hne
        generalize w3.drew = w4 at *
        go_wp2
        go_meet
        exact HX.out
  case rest =>
    obtain ⟨⟨F3, hw3, hF3⟩, hO3, hb3⟩ := hcut
    have hF1 := HF1.out
    have hFw : ∀ k, F3 k → F k ∨ w.heap.size ≤ k := fun k hk => hF1 k (hF3 k hk)
    have hOw : Only F w wc := (HD1.out.only.trans (HO2.out.mono (T := F) fun _ _ e => e.elim) fun k hk => .inl hk).trans hO3 fun k hk => hk.elim (hF1 k) fun e => .inr (by omega)
    have HV3 := Lib.hid (HV.out.next hOw hFw)
    have HFW := Lib.hid hFw
    have HOW := Lib.hid hOw
    have HW3 := Lib.hid hw3
    have HB3 := Lib.hid hb3
    have HN3 := Lib.hid (show ¬ F3 bf from fun e => HBF.out (hF3 bf e))
    have b0 : wc.cell? ⟨bf, 0, none⟩ = some (.bool f.lost) := hb3.cell 0
    have b1 : wc.cell? ⟨bf, 1, none⟩ = some (.int .i64 f.delay) := hb3.cell 1
    have b2 : wc.cell? ⟨bf, 2, none⟩ = some (.int .i64 f.twin) := hb3.cell 2
    obtain ⟨vw3, vf3, hA3⟩ := hw3.at'
    have HA3 := Lib.hid hA3
    have c0 : wc.cell? ⟨b, 0, none⟩ = some (.int .i64 (sentP s n).now) := hA3.c0
    have c2 : wc.cell? ⟨b, 2, none⟩ = some (.int .i64 s.lost) := hA3.c2
    have f2 := hA3.blk.free 2
    have hls := HF.out.lost
    have wl : IntKind.i64.wrap (s.lost + 1) = s.lost + 1 := IntWalk.i64_in _ (by have : (sentP s n).lost = s.lost := rfl; omega)
    clear hw3 hF3 hO3 hb3 hF1 hFw hOw hA3 hls c4
    obtain ⟨fl, fd, ft⟩ := f
    dsimp only at b0 b1 b2
    have HPR := Lib.hid (show ∀ s', putR s n bs s' ↔ if fl = true then s' = { sentP s n with lost := s.lost + 1 } else ∃ s3, layR (sentP s n) (sumZ (sentP s n).now fd) bs s3 ∧ if 0 < ft then layR s3 (sumZ (sumZ (sentP s n).now fd) ft) bs s' else s' = s3 from fun s' => by unfold putR; rw [HFD.out])
    cases fl with
    | true =>
      go_wp2
      refine bodyPost_ret (results_none rfl _ _ _) rfl ?_
      exact ⟨rfl, _, (HPR.out _).2 (by rw [if_pos trivial]), Did.from' HOW.out HFW.out (HW3.out.put HA3.out 2 _ { sentP s n with lost := s.lost + 1 } rfl rfl rfl)⟩
    | false =>
      have hnow := HF.out.now
      have hs1 := sum_any (sentP s n).now fd hnow.1 hnow.2
      go_upto_region 6 with fail
      go_quiet ((go_at_call 31; exact Calls.quiet_of_same (hs1 _)))
      have HV4 := Lib.hid (HV3.out.next (F' := F3) ((Only.refl F3 wc).drewN nq) fun _ h => .inl h)
      have HW4 := Lib.hid (HW3.out.only ((Only.refl Nil wc).drewN nq) fun _ _ e => e)
      have HB4 := Lib.hid (HB3.out.drewN nq)
      have HOW4 := Lib.hid (HOW.out.drewN nq)
      have hszc : wc.heap.size = (wc.drewN nq).heap.size := rfl
      have HBFW := Lib.hid (show bf < wc.heap.size from HB3.out.lt)
      generalize wc.drewN nq = w4 at *
      obtain ⟨at1, hat1⟩ : ∃ x, sumZ (sentP s n).now fd = x := ⟨_, rfl⟩
      have hsum0 : 0 ≤ at1 ∧ at1 ≤ 1125899906842624 := by rw [← hat1]; unfold sumZ; omega
      rw [hat1] at HPR ⊢
      clear hs1 c0 c2 f2 wl b1 b2 hszc HB3 hnow hat1
      go_upto_region 8 with (go_at_call 32; refine (lay_any HW4.out HF.out at1 (.slice A' bs.length cap') bs HV4.out.reads hl HV4.out.far).mono ?_; rintro e w5 ⟨rfl, s3, hl3, hd3⟩)
      have hfit3 := layR_fit hl3 HF.out (by have := HFb.out; show s.laid ≤ _ ∧ s.lost ≤ _; omega)
      obtain ⟨F5, hw5, hF5⟩ := hd3.wire
      have hb5 := hd3.only.blk HB4.out HN3.out
      have b2 : w5.cell? ⟨bf, 2, none⟩ = some (.int .i64 ft) := hb5.cell 2
      have HL3 := Lib.hid hl3
      have HD3 := Lib.hid hd3
      have HW5 := Lib.hid hw5
      have HF5 := Lib.hid hF5
      have HFI := Lib.hid hfit3
      clear hl3 hd3 hw5 hF5 hb5 hfit3
      by_cases h0 : 0 < ft
      · have hs2 := sum_any at1 ft hsum0.1 hsum0.2
        go_wp2_with (first
          | (go_at_call 31; refine (hs2 _).mono ?_; rintro e w6 ⟨rfl, rfl⟩)
          | (go_at_call 32; refine (lay_any HW5.out HFI.out.1 (sumZ at1 ft) (.slice A' bs.length cap') bs (HV4.out.next HD3.out.only HF5.out).reads hl (HV4.out.next HD3.out.only HF5.out).far).mono ?_; rintro e w7 ⟨rfl, s4, hl4, hd4⟩))
        go_end0
        refine ⟨rfl, s4, (HPR.out _).2 ?_, Did.from' HOW4.out HFW.out (Did.from' HD3.out.only HF5.out hd4)⟩
        simp only [Bool.false_eq_true, if_false]
        exact ⟨s3, HL3.out, by rw [if_pos h0]; exact hl4⟩
      · have d0 : decide (0 < ft) = false := by simp; omega
        have HH0 := Lib.hid h0
        clear h0
        go_wp2
        go_end0
        refine ⟨rfl, s3, (HPR.out _).2 ?_, Did.from' HOW4.out HFW.out HD3.out⟩
        simp only [Bool.false_eq_true, if_false]
        exact ⟨s3, HL3.out, by rw [if_neg (by have := HH0.out; omega)]⟩
end
end Go.Proofs.Ytkkjnembjlgiaaa
