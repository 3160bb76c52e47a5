/-
  pop: its walk.
-/
import Derived.Test.YtkkjnembjlgiaaaWc
import Derived.Deep.CutBlock
namespace Go.Proofs.Ytkkjnembjlgiaaa
set_option maxRecDepth 100000
open Go.RowKit

theorem down_step (l : List Wy) (i : Nat) (h : 2 * i + 1 < l.length) (ha : aheadB (l.getD (kid l (2 * i + 1)) wy0) (l.getD i wy0) = true) : down l i = down (swapL l i (kid l (2 * i + 1))) (kid l (2 * i + 1)) := by
  rw [down, if_pos ⟨h, ha⟩]
theorem down_stop (l : List Wy) (i : Nat) (h : ¬ (2 * i + 1 < l.length ∧ aheadB (l.getD (kid l (2 * i + 1)) wy0) (l.getD i wy0) = true)) : down l i = l := by
  rw [down, if_neg h]
theorem OwW.cut {B : Nat} {w : World} {g cap n : Nat} {l : List Wy} (h : OwW B w (.slice (some ⟨g, 0, none⟩) n cap) l) (k : Nat) (hk : k ≤ l.length) : OwW B w (.slice (some ⟨g, 0, none⟩) k cap) (l.take k) := by
  obtain ⟨rfl, hB, hc, cs, hb, hs, ht⟩ := h.row
  have hm : cap ≤ maxLen := by
    rcases h.2 with ⟨h1, _⟩ | ⟨k, c, cur, hv, _, _, _, hm, _⟩
    · cases h1
    · injection hv with _ _ e3
      rw [e3]
      exact hm
  have hl : (l.take k).length = k := by rw [List.length_take]; omega
  have := OwW.of_row (l := l.take k) hB hb (by omega) hm hs (by rw [hl, ← flatW_take l k, ← ht, List.take_take]; congr 1; omega)
  rwa [hl] at this
theorem slice_ways {g n cap : Nat} (k : Nat) (hk : k ≤ cap) (W : World) : (Instr.slice 54 (.slice (some ⟨g, 0, none⟩) n cap) none (some (.int .i64 (k : Int))) none).run Try.prog W = .ok (.slice (some ⟨g, 0, none⟩) k cap) W := by
  obtain ⟨ib, hib, _, hbs, _⟩ := info_parts info_way
  have hel : Try.prog.elem 54 = 68 := by simp [Program.elem, Try.underlying54]
  rw [run_slice_h W 54 (some ⟨g, 0, none⟩) n cap (by rw [hel]; exact Try.underlying54) .i64 k (by omega) (by omega), hel]
  simp [sizeOf, typeInfo, hib, hbs, Result.andThen, sliced, Addr.add]
theorem results_tc {P : Program} {fn : Func} {t u : Tmp} {ty : TypeId} (h : fn.results = #[.tmp t, .cell u ty]) (tmps : Array Value) (W : World) (g : Nat) (cs : List Value) (d : TypeDesc)
    (hx : tmps.getD u undef = .pointer (some ⟨g, 0, none⟩)) (hc : W.rangeAt g 0 cs) (hu : P.underlying ty = some d) (hd : d.isRow = true) (hi : (P.info? ty).map (·.size) = some cs.length) :
    (results fn tmps).run P W = .ok (.tuple #[tmps.getD t undef, .agg cs.toArray]) W := by
  have hl := run_loadVar_mid (P := P) W g 0 ty cs d hc hu hd hi
  have hx' : tmps[u]?.getD undef = .pointer (some ⟨g, 0, none⟩) := by simpa using hx
  simp only [results, h]
  simp [Result.andThen, hx', asAddr, hl]
set_option maxHeartbeats 6400000 in
theorem pop_any (B : Nat) (v : Value) (l : List Wy) (w : World) (h : OwW B w v l) (h0 : 0 < l.length) (hn : l.length ≤ 1000000) :
    Calls Try.prog 33 #[v, .func (.func 34) #[] #[]] w fun e w' => ∃ v', e = .returned (.tuple #[v', (l.getD 0 wy0).v]) ∧ OwW B w' v' (popP l) ∧ Only (fun k => v.ownBlock = some k) w w' ∧ v'.ownBlock = v.ownBlock := by
  obtain ⟨g, cap, rfl, hBg, hgl⟩ := World.ownsRow.form h h0
  obtain ⟨_, _, hcap, _⟩ := h.row
  obtain ⟨n, hn0⟩ : ∃ n, l.length = n + 1 := ⟨l.length - 1, by omega⟩
  obtain ⟨b, hb⟩ : ∃ b, w.heap.size = b := ⟨_, rfl⟩
  have hsl := fun W => slice_ways (g := g) (n := n + 1) (cap := cap) n (by omega) W
  rw [hn0] at h
  have HW0 := Lib.hid h
  have HN0 := Lib.hid hn0
  have HG := Lib.hid hgl
  obtain ⟨x, hx⟩ : ∃ x, l.getD 0 wy0 = x := ⟨_, rfl⟩
  obtain ⟨y, hy⟩ : ∃ x, l.getD n wy0 = x := ⟨_, rfl⟩
  have HX := Lib.hid hx
  have HY := Lib.hid hy
  rw [hx, hn0]
  have HHB := Lib.hid hb
  clear h hx hy hgl hBg
  go_enter Try.func33, Try.ntmps33
  go_upto_region 1 with fail
  refine wp_gen (fun W => OwW B W (.slice (some ⟨g, 0, none⟩) (n + 1) cap) l ∧ Only Nil w W ∧ Blk W b 68 [.int .i64 0, .int .i64 0, .slice none 0 0] ∧ W.heap.size = b + 1) ⟨ownN_only HW0.out ((Only.refl Nil w).alloc _) fun _ _ => id, (Only.refl Nil w).alloc _, hb ▸ Blk.new w _ _, by rw [World.size_alloc, hb]⟩ ?_
  rintro w1 ⟨h1, ho1, hb1, hs1⟩
  obtain ⟨p0, p1, p2⟩ := h1.cells3 (j := 0) (by omega)
  rw [HX.out, Nat.zero_mul] at p0 p1 p2
  rw [Nat.zero_add] at p1 p2
  have H1 := Lib.hid (show _ ∧ _ ∧ _ from ⟨h1, ho1, hb1⟩)
  have HS1 := Lib.hid hs1
  clear h1 ho1 hb1 hb
  go_upto_region 2 with fail
  refine wp_gen (fun W => OwW B W (.slice (some ⟨g, 0, none⟩) (n + 1) cap) l ∧ Only Nil w W ∧ Blk W b 68 [.int .i64 0, .int .i64 0, .slice none 0 0] ∧ Blk W (b + 1) 68 [.int .i64 x.due, .int .i64 x.num, .slice x.a x.bs.length x.cap]) ⟨ownN_only H1.out.1 ((Only.refl Nil w1).alloc _) fun _ _ => id, H1.out.2.1.alloc _, H1.out.2.2.alloc _, HS1.out ▸ Blk.new w1 _ _⟩ ?_
  clear p0 p1 p2 H1 HS1 hs1
  rintro w2 ⟨h2, ho2, hb2, hx2⟩
  obtain ⟨p0, p1, p2⟩ := h2.cells3 (j := 0) (by omega)
  rw [HX.out, Nat.zero_mul] at p0 p1 p2
  rw [Nat.zero_add] at p1 p2
  obtain ⟨q0, q1, q2⟩ := h2.cells3 (j := n) (by omega)
  rw [HY.out] at q0 q1 q2
  have f0 := h2.free
  have H2 := Lib.hid (show _ ∧ _ ∧ _ ∧ _ from ⟨h2, ho2, hb2, hx2⟩)
  clear h2 ho2 hb2 hx2
  have g1 : (n : Int) < (n : Int) + 1 := by omega
  go_upto_region 4 with fail
  have hgb : g ≠ b ∧ g ≠ b + 1 := by have := HG.out; have := HHB.out; omega
  have HGB := Lib.hid hgb
  clear hgb
  obtain ⟨m0, hm0⟩ : ∃ m, (l.set 0 y).take n = m := ⟨_, rfl⟩
  have hml0 : m0.length = n := by rw [← hm0, List.length_take, List.length_set]; omega
  have hpop : popP l = down m0 0 := by unfold popP; rw [hn0, show n + 1 - 1 = n from rfl, HY.out, hm0]
  refine wp_gen (fun W => OwW B W (.slice (some ⟨g, 0, none⟩) n cap) m0 ∧ Only (One g) w W ∧ Blk W b 68 [.int .i64 0, .int .i64 0, .slice none 0 0] ∧ Blk W (b + 1) 68 [.int .i64 x.due, .int .i64 x.num, .slice x.a x.bs.length x.cap]) ?_ ?_
  · refine ⟨?_, ?_, ?_, ?_⟩
    · have := (H2.out.1.set0 (by omega) y).cut n (by rw [List.length_set]; omega)
      rw [hm0] at this
      exact this
    · exact (((H2.out.2.1.mono fun _ _ e => e.elim).setCell (p := ⟨g, _, none⟩) (.inl (One.self g)) _).setCell (p := ⟨g, _, none⟩) (.inl (One.self g)) _).setCell (p := ⟨g, _, none⟩) (.inl (One.self g)) _
    · exact ((H2.out.2.2.1.far (p := ⟨g, _, none⟩) (Ne.symm HGB.out.1) _).far (p := ⟨g, _, none⟩) (Ne.symm HGB.out.1) _).far (p := ⟨g, _, none⟩) (Ne.symm HGB.out.1) _
    · exact ((H2.out.2.2.2.far (p := ⟨g, _, none⟩) (Ne.symm HGB.out.2) _).far (p := ⟨g, _, none⟩) (Ne.symm HGB.out.2) _).far (p := ⟨g, _, none⟩) (Ne.symm HGB.out.2) _
  clear p0 p1 p2 q0 q1 q2 f0 H2 hsl
  intro w3 h3
  have H3 := Lib.hid h3
  have HP := Lib.hid hpop
  clear h3 hpop hm0
  go_wp2
  go_loopw [8, 9] (fun i kk wr => ∃ (i' k' : Nat) (m : List Wy), i = .int .i64 i' ∧ kk = .int .i64 k' ∧ k' = 2 * i' + 1 ∧ i' ≤ n ∧ m.length = n ∧ down m i' = down m0 0 ∧ OwW B wr (.slice (some ⟨g, 0, none⟩) n cap) m ∧ Only (One g) w3 wr) (fun i _ _ => n - (intOf i).toNat)
  case atStart => exact ⟨0, 1, m0, rfl, rfl, rfl, Nat.zero_le _, hml0, rfl, H3.out.1, Only.refl _ _⟩
  case round =>
    obtain ⟨i, k, m, rfl, rfl, hki, hi, hml, hdn, hown, hon⟩ := hrel
    have HD := Lib.hid hdn
    have HO := Lib.hid hon
    have HW := Lib.hid hown
    have HKI := Lib.hid hki
    clear hdn hon hown hki
    by_cases hk : k < n
    · have g2 : (k : Int) < (n : Int) := by omega
      go_upto_region 7 with fail
      go_cut [47] (fun kb wx => kb = .bool (kidB m k) ∧ OwW B wx (.slice (some ⟨g, 0, none⟩) n cap) m ∧ Only (One g) w3 wx)
      case first =>
        by_cases hk1 : k + 1 < n
        · have g3 : (k : Int) + 1 < (n : Int) := by omega
          have g4 : (0 : Int) ≤ (k : Int) + 1 := by omega
          have wk : IntKind.i64.wrap ((k : Int) + 1) = (k : Int) + 1 := IntWalk.i64_in _ (by omega)
          obtain ⟨p0, p1, p2⟩ := HW.out.cells3 (j := k + 1) (by omega)
          obtain ⟨q0, q1, q2⟩ := HW.out.cells3 (j := k) (by omega)
          obtain ⟨y2, hy2⟩ : ∃ x, m.getD (k + 1) wy0 = x := ⟨_, rfl⟩
          obtain ⟨y1, hy1⟩ : ∃ x, m.getD k wy0 = x := ⟨_, rfl⟩
          rw [hy2] at p0 p1 p2
          rw [hy1] at q0 q1 q2
          have HKD := Lib.hid (show kidB m k = aheadB y2 y1 by unfold kidB; rw [hml, hy2, hy1]; simp [hk1])
          clear hy2 hy1
          go_still_tail 15, (by kernel_rfl)
          change wpList _ _ _ _ _ wr.drew
          have HO1 := Lib.hid (show Only (One g) w3 wr.drew from HO.out.drew)
          have HW1 := Lib.hid HW.out.drew
          generalize wr.drew = w4 at *
          clear p0 p1 p2 q0 q1 q2 HO HW
          cases hb : aheadB y2 y1
          all_goals
            go_wp2_with (go_at_call 34; refine (ahead_any y2 y1 _).mono ?_; rintro e w5 ⟨rfl, ho5⟩; rw [hb]; have HO5 := Lib.hid (HO1.out.then (ho5.mono fun _ _ e => e.elim)); have HW5 := Lib.hid (show OwW B w5 (.slice (some ⟨g, 0, none⟩) n cap) m from ownN_only HW1.out ho5 fun _ _ => id); clear ho5)
            go_meet
            refine ⟨?_, HW5.out, HO5.out⟩
            rw [HKD.out, hb]
        · have g3 : decide ((k : Int) + 1 < (n : Int)) = false := by simp; omega
          have HKD := Lib.hid (show kidB m k = false by unfold kidB; rw [hml]; simp [hk1])
          go_quiet (fail)
          go_wp2
          go_meet
          exact ⟨by rw [HKD.out], ownN_only HW.out ((Only.refl Nil wr).drewN nq) fun _ _ => id, HO.out.drewN nq⟩
      case rest =>
        obtain ⟨rfl, hown, hon⟩ := hcut
        have HO1 := Lib.hid hon
        have HW1 := Lib.hid hown
        clear hown hon HO HW
        obtain ⟨kk, hkk⟩ : ∃ x, kid m k = x := ⟨_, rfl⟩
        have hkk2 : kk < n := by rw [← hkk]; unfold kid kidB; rw [hml]; by_cases h1 : k + 1 < n <;> simp [h1] <;> (try split) <;> omega
        have hkk3 : k ≤ kk := by rw [← hkk]; unfold kid; split <;> omega
        have hik : i < kk := by have := HKI.out; omega
        obtain ⟨p0, p1, p2⟩ := HW1.out.cells3 (j := kk) (by omega)
        obtain ⟨q0, q1, q2⟩ := HW1.out.cells3 (j := i) (by omega)
        obtain ⟨y2, hy2⟩ : ∃ x, m.getD kk wy0 = x := ⟨_, rfl⟩
        obtain ⟨y1, hy1⟩ : ∃ x, m.getD i wy0 = x := ⟨_, rfl⟩
        rw [hy2] at p0 p1 p2
        rw [hy1] at q0 q1 q2
        have HY2 := Lib.hid hy2
        have HY1 := Lib.hid hy1
        have HKK := Lib.hid hkk
        have g5 : (kk : Int) < (n : Int) := by omega
        have g6 : (i : Int) < (n : Int) := by omega
        have wk : IntKind.i64.wrap ((k : Int) + 1) = (k : Int) + 1 := IntWalk.i64_in _ (by omega)
        unfold kid at hkk
        clear hy2 hy1
        cases hkb : kidB m k
        all_goals
          rw [hkb] at hkk
          have HK2 := Lib.hid hkk
          clear hkk hkb
          go_upto_region 9 with fail
          first
            | rw [show ((k : Int) + 1) = (kk : Int) from by have := HK2.out; simp at this; omega]
            | rw [show (k : Int) = (kk : Int) from by have := HK2.out; simp at this; omega]
          clear HK2 wk
          go_still_tail 9, (by kernel_rfl)
          change wpList _ _ _ _ _ wc.drew
          have HO2 := Lib.hid (show Only (One g) w3 wc.drew from HO1.out.drew)
          have HW2 := Lib.hid HW1.out.drew
          generalize wc.drew = w4 at *
          clear p0 p1 p2 q0 q1 q2 HO1 HW1
          cases hb : aheadB y2 y1 with
          | false =>
            go_upto_region 12 with (go_at_call 34; refine (ahead_any y2 y1 _).mono ?_; rintro e w5 ⟨rfl, ho5⟩; rw [hb]; have HO5 := Lib.hid (HO2.out.then (ho5.mono fun _ _ e => e.elim)); have HW5 := Lib.hid (show OwW B w5 (.slice (some ⟨g, 0, none⟩) n cap) m from ownN_only HW2.out ho5 fun _ _ => id); clear ho5)
            have hbb := HO5.out.blk H3.out.2.2.1 (fun e => HGB.out.1 (Eq.symm e))
            have hbx := HO5.out.blk H3.out.2.2.2 (fun e => HGB.out.2 (Eq.symm e))
            have d0 : w5.cell? ⟨b, 0, none⟩ = some (.int .i64 0) := hbb.cell 0
            have d1 : w5.cell? ⟨b, 1, none⟩ = some (.int .i64 0) := hbb.cell 1
            have d2 : w5.cell? ⟨b, 2, none⟩ = some (.slice none 0 0) := hbb.cell 2
            have c0 : w5.cell? ⟨b + 1, 0, none⟩ = some (.int .i64 x.due) := hbx.cell 0
            have c1 : w5.cell? ⟨b + 1, 1, none⟩ = some (.int .i64 x.num) := hbx.cell 1
            have c2 : w5.cell? ⟨b + 1, 2, none⟩ = some (.slice x.a x.bs.length x.cap) := hbx.cell 2
            have fb := hbb.free
            clear hbb hbx
            have HFB := Lib.hid fb
            go_region
            go_wp2
            have hO : Only (One g) w ((((w5.setCell ⟨b, 0, none⟩ (.int .i64 x.due)).setCell ⟨b, 1, none⟩ (.int .i64 x.num)).setCell ⟨b, 2, none⟩ (.slice x.a x.bs.length x.cap)).drew) :=
              ((((H3.out.2.1.then HO5.out).setCell (p := ⟨b, _, none⟩) (.inr (Nat.le_of_eq HHB.out)) _).setCell (p := ⟨b, _, none⟩) (.inr (Nat.le_of_eq HHB.out)) _).setCell (p := ⟨b, _, none⟩) (.inr (Nat.le_of_eq HHB.out)) _).drew
            have hbz := ((((HO5.out.blk H3.out.2.2.1 (fun e => HGB.out.1 (Eq.symm e))).set 0 (.int .i64 x.due)).set 1 (.int .i64 x.num)).set 2 (.slice x.a x.bs.length x.cap)).drew
            refine bodyPost_ret (results_tc rfl _ _ b [.int .i64 x.due, .int .i64 x.num, .slice x.a x.bs.length x.cap] _ rfl (fun j v hj => by rw [Nat.zero_add, hbz.cell]; exact hj) Try.underlying68 rfl (by kernel_rfl)) rfl ?_
            refine ⟨.slice (some ⟨g, 0, none⟩) n cap, rfl, ?_, hO.mono fun k _ e => ?_, rfl⟩
            · rw [HP.out, ← HD.out, down_stop m i (by rw [hml, ← HKI.out, HKK.out, HY2.out, HY1.out, hb]; simp)]
              have ho1 : Only (One b) w5 ((((w5.setCell ⟨b, 0, none⟩ (.int .i64 x.due)).setCell ⟨b, 1, none⟩ (.int .i64 x.num)).setCell ⟨b, 2, none⟩ (.slice x.a x.bs.length x.cap)).drew) :=
                ((((Only.refl _ _).setCell (p := ⟨b, _, none⟩) (.inl (One.self b)) _).setCell (p := ⟨b, _, none⟩) (.inl (One.self b)) _).setCell (p := ⟨b, _, none⟩) (.inl (One.self b)) _).drew
              have hw := HW5.out
              unfold OwW at hw ⊢
              exact ownN_only hw ho1 fun k hk e => HGB.out.1 (by have : g = k := Option.some.inj hk; rw [this]; exact e)
            · exact congrArg some (Eq.symm e)
          | true =>
            go_upto_region 10 with (go_at_call 34; refine (ahead_any y2 y1 _).mono ?_; rintro e w5 ⟨rfl, ho5⟩; rw [hb]; have HO5 := Lib.hid (HO2.out.then (ho5.mono fun _ _ e => e.elim)); have HW5 := Lib.hid (show OwW B w5 (.slice (some ⟨g, 0, none⟩) n cap) m from ownN_only HW2.out ho5 fun _ _ => id); clear ho5)
            obtain ⟨p0, p1, p2⟩ := HW5.out.cells3 (j := kk) (by omega)
            obtain ⟨q0, q1, q2⟩ := HW5.out.cells3 (j := i) (by omega)
            rw [HY2.out] at p0 p1 p2
            rw [HY1.out] at q0 q1 q2
            have f0 := HW5.out.free
            go_region
            refine wp_gen' (swapW w5 g i kk y2 y1) rfl ?_
            have HN := Lib.hid (HW5.out.swap (j := i) (i := kk) (by omega) (by omega) y2 y1)
            have HM := Lib.hid (only_swap HO5.out (.inl (One.self g)) i kk y2 y1)
            generalize swapW w5 g i kk y2 y1 = w6 at *
            clear p0 p1 p2 q0 q1 q2 f0 HW5 HO5
            go_wp2
            go_roundw
            case rel =>
              refine ⟨kk, 2 * kk + 1, swapL m i kk, rfl, by go_num, rfl, by omega, by rw [swapL_length]; exact hml, ?_, ?_, HM.out⟩
              · rw [← HD.out, down_step m i (by rw [hml, ← HKI.out]; exact hk) (by rw [← HKI.out, HKK.out, HY2.out, HY1.out, hb]), ← HKI.out, HKK.out]
              · unfold swapL
                rw [HY2.out, HY1.out]
                exact HN.out
            case measure => simp only [intOf]; omega
    · have g2 : ¬ (k : Int) < (n : Int) := by omega
      go_upto_region 12 with fail
      have hbb := HO.out.blk H3.out.2.2.1 (fun e => HGB.out.1 (Eq.symm e))
      have hbx := HO.out.blk H3.out.2.2.2 (fun e => HGB.out.2 (Eq.symm e))
      have d0 : wr.cell? ⟨b, 0, none⟩ = some (.int .i64 0) := hbb.cell 0
      have d1 : wr.cell? ⟨b, 1, none⟩ = some (.int .i64 0) := hbb.cell 1
      have d2 : wr.cell? ⟨b, 2, none⟩ = some (.slice none 0 0) := hbb.cell 2
      have c0 : wr.cell? ⟨b + 1, 0, none⟩ = some (.int .i64 x.due) := hbx.cell 0
      have c1 : wr.cell? ⟨b + 1, 1, none⟩ = some (.int .i64 x.num) := hbx.cell 1
      have c2 : wr.cell? ⟨b + 1, 2, none⟩ = some (.slice x.a x.bs.length x.cap) := hbx.cell 2
      have fb := hbb.free
      clear hbb hbx
      have HFB := Lib.hid fb
      go_region
      go_wp2
      have hO : Only (One g) w ((((wr.setCell ⟨b, 0, none⟩ (.int .i64 x.due)).setCell ⟨b, 1, none⟩ (.int .i64 x.num)).setCell ⟨b, 2, none⟩ (.slice x.a x.bs.length x.cap)).drew) :=
        ((((H3.out.2.1.then HO.out).setCell (p := ⟨b, _, none⟩) (.inr (Nat.le_of_eq HHB.out)) _).setCell (p := ⟨b, _, none⟩) (.inr (Nat.le_of_eq HHB.out)) _).setCell (p := ⟨b, _, none⟩) (.inr (Nat.le_of_eq HHB.out)) _).drew
      have hbz := ((((HO.out.blk H3.out.2.2.1 (fun e => HGB.out.1 (Eq.symm e))).set 0 (.int .i64 x.due)).set 1 (.int .i64 x.num)).set 2 (.slice x.a x.bs.length x.cap)).drew
      refine bodyPost_ret (results_tc rfl _ _ b [.int .i64 x.due, .int .i64 x.num, .slice x.a x.bs.length x.cap] _ rfl (fun j v hj => by rw [Nat.zero_add, hbz.cell]; exact hj) Try.underlying68 rfl (by kernel_rfl)) rfl ?_
      refine ⟨.slice (some ⟨g, 0, none⟩) n cap, rfl, ?_, hO.mono fun k _ e => ?_, rfl⟩
      · rw [HP.out, ← HD.out, down_stop m i (by have := HKI.out; omega)]
        have ho1 : Only (One b) wr ((((wr.setCell ⟨b, 0, none⟩ (.int .i64 x.due)).setCell ⟨b, 1, none⟩ (.int .i64 x.num)).setCell ⟨b, 2, none⟩ (.slice x.a x.bs.length x.cap)).drew) :=
          ((((Only.refl _ _).setCell (p := ⟨b, _, none⟩) (.inl (One.self b)) _).setCell (p := ⟨b, _, none⟩) (.inl (One.self b)) _).setCell (p := ⟨b, _, none⟩) (.inl (One.self b)) _).drew
        have hw := HW.out
        unfold OwW at hw ⊢
        exact ownN_only hw ho1 fun k hk e => HGB.out.1 (by have : g = k := Option.some.inj hk; rw [this]; exact e)
      · exact congrArg some (Eq.symm e)
end Go.Proofs.Ytkkjnembjlgiaaa
