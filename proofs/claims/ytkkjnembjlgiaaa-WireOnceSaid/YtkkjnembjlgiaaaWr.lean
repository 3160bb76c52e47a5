/-
  WireOnce's walk.
-/
import Derived.Test.YtkkjnembjlgiaaaWo
import Derived.Deep.CutBlock
namespace Go.Proofs.Ytkkjnembjlgiaaa
set_option maxRecDepth 100000
open Go.RowKit

theorem RF.nil {W W' : World} {v : Value} {l : List Ft} (h : RF W v l) (ho : Only Nil W W') : RF W' v l := by
  obtain ⟨A, c, rfl, hc, hr⟩ := h
  refine ⟨A, c, rfl, hc, fun h0 => ?_⟩
  obtain ⟨g, o, rfl, hcell⟩ := hr h0
  exact ⟨g, o, rfl, fun j u hj => ho.cell (hcell j u hj) id⟩
theorem flatF_get : ∀ (l : List Ft) (j i : Nat), j < l.length → i < 3 → (flatF l)[j * 3 + i]? = (l.getD j ft0).cells[i]?
  | [], j, _, hj, _ => absurd hj (Nat.not_lt_zero j)
  | x :: r, 0, i, _, hi => by
    show (x.cells ++ flatF r)[0 * 3 + i]? = _
    rw [Nat.zero_mul, Nat.zero_add, List.getElem?_append_left (by exact hi)]
    rfl
  | x :: r, j + 1, i, hj, hi => by
    show (x.cells ++ flatF r)[(j + 1) * 3 + i]? = _
    have hx : x.cells.length = 3 := rfl
    rw [List.getElem?_append_right (by rw [hx]; omega), hx, show (j + 1) * 3 + i - 3 = j * 3 + i by omega, flatF_get r j i (by simpa using hj) hi]
    simp [List.getD]
theorem RF.at' {W : World} {v : Value} {l : List Ft} (h : RF W v l) {k : Nat} (hk : k < l.length) : ∃ g o c, v = .slice (some ⟨g, o, none⟩) l.length c ∧ W.cell? ⟨g, o + k * 3, none⟩ = some (.bool (l.getD k ft0).lost) ∧ W.cell? ⟨g, o + k * 3 + 1, none⟩ = some (.int .i64 (l.getD k ft0).delay) ∧ W.cell? ⟨g, o + k * 3 + 2, none⟩ = some (.int .i64 (l.getD k ft0).twin) := by
  obtain ⟨A, c, rfl, hc, hr⟩ := h
  obtain ⟨g, o, rfl, hcell⟩ := hr (by omega)
  refine ⟨g, o, c, rfl, ?_, ?_, ?_⟩
  · exact hcell (k * 3) _ (flatF_get l k 0 hk (by omega))
  · rw [Nat.add_assoc]
    exact hcell (k * 3 + 1) _ (flatF_get l k 1 hk (by omega))
  · rw [Nat.add_assoc]
    exact hcell (k * 3 + 2) _ (flatF_get l k 2 hk (by omega))
theorem RV.at' {W : World} {v : Value} {l : List Int} (h : RV W v (IC l)) {k : Nat} (hk : k < l.length) : ∃ g o c, v = .slice (some ⟨g, o, none⟩) l.length c ∧ W.cell? ⟨g, o + k, none⟩ = some (.int .i64 (l.getD k 0)) := by
  obtain ⟨A, c, rfl, hc, hr⟩ := h
  have hl : (IC l).length = l.length := by simp [IC]
  rw [hl] at hr ⊢
  obtain ⟨g, o, rfl, hcell⟩ := hr (by omega)
  refine ⟨g, o, c, rfl, ?_⟩
  rw [hcell k hk]
  simp [IC, List.getD, hk]
def CM (l : List Nat) : List Int := l.map Int.ofNat
def OnceL (w : World) (b : Nat) (fs : List Ft) (n : Nat) (now vf vc lost under i : Value) (wr : World) : Prop :=
  ∃ (k : Nat) (nw : Int) (fr : List Int) (cm : List Nat) (s : WS), k ≤ n ∧ k ≤ 2000 ∧ i = .int .i64 k ∧ now = .int .i64 nw ∧ lost = .int .i64 s.lost ∧ under = .int .i64 (s.ways.length : Nat) ∧ Once fs k nw fr cm s ∧ Two w b s vf vc fr (CM cm) wr
theorem once_start {w : World} {b : Nat} {fs : List Ft} {n : Nat} {W : World} (h : Wr w b { ws0 with fates := fs } W) : OnceL w b fs n (.int .i64 0) (.slice none 0 0) (.slice none 0 0) (.int .i64 0) (.int .i64 0) (.int .i64 0) W :=
  ⟨0, 0, [], [], { ws0 with fates := fs }, Nat.zero_le _, Nat.zero_le _, rfl, rfl, rfl, rfl, ⟨by decide, by show (0 : Int) ≤ 0 ∧ (0 : Int) ≤ 0; decide, rfl, rfl, rfl, fun k hk => absurd hk (Nat.not_lt_zero _), fun e he => (by cases he), fun k hk => absurd hk (Nat.not_lt_zero _), fun i h0 hi => absurd hi (Nat.not_lt_zero _), Nat.le_refl _, by show (0 : Int) ≤ 0 ∧ (0 : Int) ≤ 2 * ((0 : Nat) : Int); decide, by show (0 : Int) ≤ 0 ∧ (0 : Int) ≤ ((0 : Nat) : Int); decide⟩,
    ⟨h, ⟨rfl, .inl ⟨rfl, rfl⟩⟩, ⟨rfl, .inl ⟨rfl, rfl⟩⟩, fun k hk => by cases hk⟩⟩
theorem num_cells {k : Nat} (h : k < 65536) : (BC (numB k)).toArray = #[.int .u8 ((k : Int) % 256), .int .u8 ((k : Int) / 256)] := by
  have h1 := by8_ofNat k
  have h2 := by8_ofNat (k / 256)
  have h3 : ((k / 256 : Nat) : Int) % 256 = (k : Int) / 256 := by omega
  rw [h3] at h2
  simp [BC, numB, h1, h2]
theorem once_fit {fs : List Ft} {i : Nat} {now : Int} {fr : List Int} {cm : List Nat} {s : WS} (h : Once fs i now fr cm s) (hi : i ≤ 2000) : Fit s ∧ (s.laid ≤ 900000000000000 ∧ s.lost ≤ 900000000000000) := by
  have h1 := h.hnow
  have h2 := h.hsn
  have h3 := h.laid
  have h4 := h.lost
  exact ⟨⟨by omega, by omega, by omega⟩, by omega⟩
theorem row_ne {B : Nat} {W : World} {v : Value} {l : List Int} {g : Nat} {cs : List Value} (h : RowI B W v l) (hb : Blk W g 46 cs) : ¬ v.ownBlock = some g := ownN_far h hb (by decide)
theorem due_outs {fs : List Ft} {i : Nat} {now now' : Int} {fr : List Int} {cm : List Nat} {s : WS} (h : Once fs i now fr cm s) (hn : now ≤ now' ∧ now' ≤ 1125899906842624) : dueO s now' = (dueP s.ways now').2 := by
  have hmv : (moveP s now').now = now' := by
    show min (max now' s.now) 1125899906842624 = now'
    have := h.hsn
    have := h.hnow
    omega
  unfold dueO
  rw [hmv]
theorem outs_le {fs : List Ft} {i : Nat} {now now' : Int} {fr : List Int} {cm : List Nat} {s : WS} (_h : Once fs i now fr cm s) {outs : List Wy} (ho : (dueP s.ways now').2 = outs) : outs.length ≤ s.ways.length := by
  obtain ⟨h1, _⟩ := dueP_spec now' _ s.ways rfl
  have := h1.length_eq
  rw [List.length_append, ho] at this
  omega
set_option maxHeartbeats 6400000 in
theorem once_any (va vw : Value) (fs : List Ft) (ws : List Int) (w : World) (hf : RF w va fs) (hw : RV w vw (IC ws)) (hfl : fs.length ≤ 5864062014700) (hwl : ws.length ≤ 1000000000000000) :
    Calls Try.prog 5 #[va, vw] w fun e w' => e = .returned (.bool true) ∧ Only Nil w w' := by
  have HF := Lib.hid (show ∀ W, Only Nil w W → RF W va fs from fun W ho => hf.nil ho)
  have HV := Lib.hid (show ∀ W, Only Nil w W → RV W vw (IC ws) from fun W ho => hw.only ho fun _ _ _ => id)
  obtain ⟨ii, hii, hiz, his, hib⟩ := info_parts info_int
  obtain ⟨Af, cf, eva, _⟩ := id hf
  obtain ⟨Aw, cw, evw, _⟩ := id hw
  have hicl : (IC ws).length = ws.length := by simp [IC]
  rw [hicl] at evw
  subst eva evw
  clear hf hw hicl
  go_enter Try.func5, Try.ntmps5
  go_upto_region 5 with (first
    | (go_at_call 6; refine (live_any _).mono ?_; rintro e w1 ⟨rfl, ho1⟩)
    | (go_at_call 8; refine (Wr.new ho1).mono ?_; rintro e w2 ⟨b, rfl, h2⟩))
  have hfc := h2.fates fs _ (HF.out _ h2.only) (by simpa [ws0] using hfl)
  have HFC := Lib.hid hfc
  clear hfc h2 ho1
  go_upto_region 6 with (go_at_call 12; refine HFC.out.mono ?_; rintro e w3 ⟨rfl, h3⟩)
  have H3 := Lib.hid (once_start (n := ws.length) (show Wr w b { ws0 with fates := fs } w3 from h3))
  clear h3 HFC
  go_wp2
  go_loopw [7, 8, 9, 10, 11, 12] (fun now vf vc lost under i wr => OnceL w b fs ws.length now vf vc lost under i wr) (fun _ _ _ _ _ i _ => ws.length - (intOf i).toNat)
  case atStart => exact H3.out
  case round =>
    obtain ⟨k, nw, fr, cm, s, hk, hk2, rfl, rfl, rfl, rfl, hO, hT⟩ := hrel
    clear H3
    by_cases hlt : k < ws.length ∧ k < 2000
    · have g1 : (k : Int) < (ws.length : Int) := by omega
      have g2 : (k : Int) < 2000 := by omega
      have HO := Lib.hid hO
      have HT := Lib.hid hT
      clear hO hT
      obtain ⟨bf, hbf⟩ : ∃ x, wr.heap.size = x := ⟨_, rfl⟩
      go_upto_region 14 with fail
      have HBF := Lib.hid hbf
      refine wp_gen (fun W => Only Nil wr W ∧ Blk W bf 46 [.bool false, .int .i64 0, .int .i64 0]) ⟨(Only.refl _ _).alloc _, hbf ▸ Blk.new wr _ _⟩ ?_
      clear hbf
      rintro w4 ⟨ho4, hb4⟩
      have HO4 := Lib.hid ho4
      have HB4 := Lib.hid hb4
      obtain ⟨f, hfd⟩ : ∃ f, fs.getD k ft0 = f := ⟨_, rfl⟩
      have HFD := Lib.hid hfd
      clear ho4 hb4 hfd
      go_upto_if 46 with fail
      go_cut [] (fun wx => Only Nil wr wx ∧ Blk wx bf 46 [.bool f.lost, .int .i64 f.delay, .int .i64 f.twin])
      case first => as_aux_lemma =>
-- [[
        by_cases hkf : k < fs.length
        · obtain ⟨g, o, c, e, q0, q1, q2⟩ := (HF.out w4 (HT.out.wr.only.then HO4.out)).at' hkf
          injection e with e1 _ e3
          subst e1 e3
          rw [HFD.out] at q0 q1 q2
          have d0 : decide (k < fs.length) = true := by simp [hkf]
          have g3 : (k : Int) < (fs.length : Int) := by omega
          have b0 : w4.cell? ⟨bf, 0, none⟩ = some (.bool false) := HB4.out.cell 0
          have b1 : w4.cell? ⟨bf, 1, none⟩ = some (.int .i64 0) := HB4.out.cell 1
          have b2 : w4.cell? ⟨bf, 2, none⟩ = some (.int .i64 0) := HB4.out.cell 2
          have fb := HB4.out.free
          rw [d0]
          go_wp2
          go_meet
          have hge := Nat.le_of_eq HBF.out
          exact ⟨((HO4.out.setCell (p := ⟨bf, 0, none⟩) (.inr hge) _).setCell (p := ⟨bf, 1, none⟩) (.inr hge) _).setCell (p := ⟨bf, 2, none⟩) (.inr hge) _, ((HB4.out.set 0 (.bool f.lost)).set 1 (.int .i64 f.delay)).set 2 (.int .i64 f.twin)⟩
        · have d0 : decide (k < fs.length) = false := by simp; omega
          have hf0 : f = ft0 := by rw [← HFD.out]; simp [List.getD, List.getElem?_eq_none (show fs.length ≤ k by omega)]
          have HF0 := Lib.hid hf0
          rw [d0]
          clear hf0 hkf
          go_wp2
          go_meet
          exact ⟨HO4.out, by rw [HF0.out]; exact HB4.out⟩
-- ]]
      case rest =>
        obtain ⟨ho5, hb5⟩ := hcut
        have HO5 := Lib.hid ho5
        have HB5 := Lib.hid hb5
        clear ho5 hb5 HO4 HB4
        have hft := once_fit HO.out (by omega)
        have hcs := num_cells (k := k) (by omega)
        have hrb : RB (wc.alloc (.cells #[.int .u8 ((k : Int) % 256), .int .u8 ((k : Int) / 256)] 5)) (.slice (some ⟨wc.heap.size, 0, none⟩) 2 2) (numB k) := by
          have := heap_alloc_new wc (.cells (BC (numB k)).toArray 5)
          rw [hcs] at this
          exact RB_row (bs := numB k) (by rw [hcs]; exact this) 2 (Nat.le_refl 2)
        have hput := HT.out.wr.put2 (HO5.out.alloc (.cells #[.int .u8 ((k : Int) % 256), .int .u8 ((k : Int) / 256)] 5)) hft.1 hft.2 nw (by have := HO.out.hnow; omega) _ (numB k) hrb (by show 2 ≤ _; decide) (fun _ q hq => .inl (by have h9 : wc.heap.size = q := (by simpa [blkOf] using hq); have := HO5.out.size; omega))
        have HPUT := Lib.hid hput
        clear hft hcs hrb hput
        go_upto_region 17 with (go_at_call 13; refine HPUT.out.mono ?_; rintro e w6 ⟨rfl, s', hp, hw6, hk6, hn6⟩)
        obtain ⟨hO6, hlen6, hlost6⟩ := put_once HO.out (by omega) hp
        have HO6 := Lib.hid hO6
        have HLEN := Lib.hid hlen6
        have HLOST := Lib.hid hlost6
        have hb6 := hn6 bf _ _ (Nat.le_of_eq HBF.out) (HB5.out.alloc (.cells #[.int .u8 ((k : Int) % 256), .int .u8 ((k : Int) / 256)] 5))
        have hT6 := (HT.out.nil (HO5.out.alloc (.cells #[.int .u8 ((k : Int) % 256), .int .u8 ((k : Int) / 256)] 5))).did hw6 hk6
        have HT6 := Lib.hid hT6
        have HB6 := Lib.hid hb6
        have hfrl := HO.out.frl
        have hcml : (CM cm).length = k := by unfold CM; rw [List.length_map]; exact HO.out.cml
        have HFL := Lib.hid hfrl
        have HCL := Lib.hid hcml
        clear hp hw6 hk6 hn6 hO6 hlen6 hlost6 hb6 hT6 HPUT hfrl hcml
        go_upto_region 18 with ((with_reducible show wpList _ _ _ (Oper.mk _ (.call { callee := .builtin .append, args := _, argTypes := _ }) _ _ _ _ :: _) _ _); refine wpList_append_row rfl (.tmp 60) (.tmp 62) 43 rfl w.heap.size 3 ii _ 8 Try.underlying43 hii hiz his hib rfl u8 fr.length (IC fr) rfl (HT6.out.nil ((Only.refl _ _).alloc _)).fr ⟨w6.heap.size, 0, none⟩ 1 1 [.int .i64 nw] rfl rfl (news_block (Blk.new w6 _ _)) (by intro u hu; rw [List.mem_singleton.1 hu]; rfl) (by omega) (by have := HFL.out; unfold maxLen; omega) (by have := HFL.out; omega) (by have := HT6.out.lt; simp; omega) ?_; intro g7 cap7 w7 hg7)
        have hT7 := (HT6.out.nil ((Only.refl Nil w6).alloc (.cells #[.int .i64 nw] 3))).grewF hg7
        have hb7 := (Only.of_grown (S := fun q => Value.ownBlock u8 = some q) hg7.grown fun q hq => .inl hq).blk (HB6.out.alloc (.cells #[.int .i64 nw] 3)) (row_ne (HT6.out.nil ((Only.refl Nil w6).alloc (.cells #[.int .i64 nw] 3))).fr (HB6.out.alloc _))
        have HT7 := Lib.hid hT7
        have HB7 := Lib.hid hb7
        clear hT7 hb7 hg7 HT6 HB6
        go_upto_block 2 with ((with_reducible show wpList _ _ _ (Oper.mk _ (.call { callee := .builtin .append, args := _, argTypes := _ }) _ _ _ _ :: _) _ _); refine wpList_append_row rfl (.tmp 64) (.tmp 65) 43 rfl w.heap.size 3 ii _ 8 Try.underlying43 hii hiz his hib rfl u9 (CM cm).length (IC (CM cm)) rfl (HT7.out.nil ((Only.refl _ _).alloc _)).cm ⟨w7.heap.size, 0, none⟩ 1 1 [.int .i64 0] rfl rfl (news_block (Blk.new w7 _ _)) (by intro u hu; rw [List.mem_singleton.1 hu]; rfl) (by omega) (by have := HCL.out; unfold maxLen; omega) (by have := HCL.out; omega) (by have := HT7.out.lt; simp; omega) ?_; intro g8 cap8 w8 hg8)
        have hT8 := (HT7.out.nil ((Only.refl Nil w7).alloc (.cells #[.int .i64 0] 3))).grewC hg8
        have hb8 := (Only.of_grown (S := fun q => Value.ownBlock u9 = some q) hg8.grown fun q hq => .inl hq).blk (HB7.out.alloc (.cells #[.int .i64 0] 3)) (row_ne (HT7.out.nil ((Only.refl Nil w7).alloc (.cells #[.int .i64 0] 3))).cm (HB7.out.alloc _))
        have HT8 := Lib.hid hT8
        have HB8 := Lib.hid hb8
        clear hT8 hb8 hg8 HT7 HB7
        have HLT := Lib.hid hlt
        clear hlt
        go_cut [10, 11] (fun lo un wx => lo = .int .i64 s'.lost ∧ un = .int .i64 (s'.ways.length : Nat) ∧ wx = w8)
        case first => as_aux_lemma =>
-- [[
          obtain ⟨fl, fd, ft⟩ := f
          have hfd := HFD.out
          have hlen := HLEN.out
          have hlost := HLOST.out
          rw [hfd] at hlen hlost
          have hll := HO.out.lost
          have hwl := HO.out.len
          have c0 : w8.cell? ⟨bf, 0, none⟩ = some (.bool fl) := HB8.out.cell 0
          have c2 : w8.cell? ⟨bf, 2, none⟩ = some (.int .i64 ft) := HB8.out.cell 2
          have wl1 : IntKind.i64.wrap (s.lost + 1) = s.lost + 1 := IntWalk.i64_in _ (by omega)
          have wu1 : IntKind.i64.wrap ((s.ways.length : Int) + 1) = (s.ways.length : Int) + 1 := IntWalk.i64_in _ (by omega)
          have wu2 : IntKind.i64.wrap ((s.ways.length : Int) + 2) = (s.ways.length : Int) + 2 := IntWalk.i64_in _ (by omega)
          unfold copies at hlen
          have HLE := Lib.hid hlen
          have HLO := Lib.hid hlost
          clear hfd hlen hlost hll hwl
          cases fl with
          | true =>
            go_wp2
            go_meet
            refine ⟨?_, ?_, rfl⟩
            · have := HLO.out
              simp at this
              rw [this]
            · have := HLE.out
              simp at this
              rw [this]
          | false =>
            by_cases h0 : 0 < ft
            · have h9 := HLE.out
              rw [if_neg (by simp), if_pos h0] at h9
              have HL9 := Lib.hid h9
              clear h9
              go_wp2
              go_meet
              refine ⟨?_, ?_, rfl⟩
              · have := HLO.out
                simp at this
                rw [this]
              · rw [HL9.out]
                go_num
            · have h9 := HLE.out
              rw [if_neg (by simp), if_neg h0] at h9
              have HL9 := Lib.hid h9
              have d0 : decide (0 < ft) = false := by simp; omega
              clear h9 h0
              go_wp2
              go_meet
              refine ⟨?_, ?_, rfl⟩
              · have := HLO.out
                simp at this
                rw [this]
              · rw [HL9.out]
                go_num
-- ]]
        case rest =>
          obtain ⟨rfl, rfl, rfl⟩ := hcut
          obtain ⟨gw, ow, cw', ew, qw⟩ := (HV.out _ HT8.out.wr.only).at' HLT.out.1
          injection ew with e1 _ e3
          subst e1 e3
          obtain ⟨x, hx⟩ : ∃ x, ws.getD k 0 = x := ⟨_, rfl⟩
          rw [hx] at qw
          rw [HFL.out, HCL.out] at HT8 ⊢
          have hecm : CM cm ++ [0] = CM (cm ++ [0]) := by simp [CM]
          rw [hecm] at HT8
          obtain ⟨fr2, hfr2⟩ : ∃ x, fr ++ [nw] = x := ⟨_, rfl⟩
          obtain ⟨cm2, hcm2⟩ : ∃ x, cm ++ [0] = x := ⟨_, rfl⟩
          rw [hfr2, hcm2] at HT8 HO6
          have hnw := HO6.out.hnow
          have HKL := Lib.hid hk
          clear hecm hfr2 hcm2 hx HB8 HLEN HLOST HFL HCL HT HO HBF HB5 HO5 HFD hk
          go_upto_if 84 with fail
          go_cut [7] (fun now wx => (∃ nw', now = .int .i64 nw' ∧ nw ≤ nw' ∧ nw' ≤ 1125899906842624) ∧ wx = wc)
          case first => as_aux_lemma =>
-- [[
            by_cases h0 : 0 < x
            · go_wp2
              all_goals go_meet
              all_goals refine ⟨⟨_, rfl, ?_, ?_⟩, rfl⟩
              all_goals omega
            · have d0 : decide (0 < x) = false := by simp; omega
              rw [d0]
              go_wp2
              go_meet
              exact ⟨⟨nw, rfl, Int.le_refl _, hnw.2⟩, rfl⟩
-- ]]
          case rest =>
            obtain ⟨⟨nw', rfl, hn1, hn2⟩, rfl⟩ := hcut
            have hdu := HT8.out.wr.due2 (by have := HO6.out.len; omega) nw' (by omega)
            have HDU := Lib.hid hdu
            clear hdu qw hnw
            go_upto_region 27 with (go_at_call 14; refine HDU.out.mono ?_; rintro e w9 ⟨vl, rfl, hw9, hrow9, hfr9, hk9⟩)
            have hou := due_outs HO6.out ⟨hn1, hn2⟩
            rw [hou] at hrow9 hfr9
            obtain ⟨outs, houts⟩ : ∃ x, (dueP s'.ways nw').2 = x := ⟨_, rfl⟩
            rw [houts] at hrow9 hfr9
            obtain ⟨Al, cl, rfl, _⟩ := ownN_form hrow9
            have HOU := Lib.hid houts
            have HT9 := Lib.hid (HT8.out.did hw9 hk9)
            have HU9 := Lib.hid (show Outs w (.slice Al outs.length cl) outs w9 from ⟨hrow9, hfr9⟩)
            have HN := Lib.hid (show nw ≤ nw' ∧ nw' ≤ 1125899906842624 from ⟨hn1, hn2⟩)
            have hle := outs_le HO6.out houts
            clear hou hw9 hrow9 hfr9 hk9 HDU HT8 houts hn1 hn2
            go_wp2
            go_loopw [11, 15] (fun un n W => ∃ (j : Nat) (cm3 : List Nat), n = .int .i64 j ∧ j ≤ outs.length ∧ un = .int .i64 ((s'.ways.length - j : Nat) : Int) ∧ cm3.length = k + 1 ∧ (∀ q, q < k + 1 → cm3.getD q 0 = cm2.getD q 0 + cnt q (outs.take j)) ∧ Two w b (dueS s' nw') (.slice (some ⟨g7, 0, none⟩) (k + 1) cap7) (.slice (some ⟨g8, 0, none⟩) (k + 1) cap8) fr2 (CM cm3) W ∧ Outs w (.slice Al outs.length cl) outs W) (fun _ n _ => outs.length - (intOf n).toNat)
            case atStart => exact ⟨0, cm2, rfl, Nat.zero_le _, rfl, HO6.out.cml, fun q _ => by simp [cnt], HT9.out, HU9.out⟩
            case round =>
              obtain ⟨j, cm3, rfl, hj, rfl, hc3, hcm3, hT3, hU3⟩ := hrel
              have HT3 := Lib.hid hT3
              have HU3 := Lib.hid hU3
              have HC3 := Lib.hid hc3
              have HM3 := Lib.hid hcm3
              clear hc3 hcm3 hT3 hU3 HT9 HU9
              by_cases hjl : j < outs.length
              · have he : outs.getD j wy0 ∈ outs := by simp [List.getD, hjl]
                obtain ⟨e, hed⟩ : ∃ x, outs.getD j wy0 = x := ⟨_, rfl⟩
                obtain ⟨hgd, hcp, hlate, hset⟩ := come_once (n := j) (e := e) HO6.out (by rw [HOU.out]; exact hjl) (fun q hq => by rw [HOU.out]; exact HM3.out q hq) (by rw [HOU.out]; exact hed)
                obtain ⟨gl, cl', evl, q0, hat⟩ := HU3.out.at' hjl
                obtain ⟨rfl, rfl⟩ : Al = some ⟨gl, 0, none⟩ ∧ cl = cl' := by
                  injection evl with e1 _ e3
                  exact ⟨e1, e3⟩
                rw [hed] at q0 hat
                obtain ⟨ge, hea, q1, q2⟩ := hat hgd.len
                unfold Wy.d at q0
                rw [hea, hgd.len] at q0
                have hb0 := by8_ge (e.bs.getD 0 0)
                have hb0' := by8_lt (e.bs.getD 0 0)
                have hb1 := by8_ge (e.bs.getD 1 0)
                have hb1' := by8_lt (e.bs.getD 1 0)
                have hkey : (keyB e.bs : Int) = by8 (e.bs.getD 0 0) + 256 * by8 (e.bs.getD 1 0) := by unfold keyB by8; omega
                have hkl : keyB e.bs < k + 1 := by have := hgd.key; rw [HO6.out.frl] at this; exact this
                obtain ⟨a0, ha0⟩ : ∃ x, by8 (e.bs.getD 0 0) = x := ⟨_, rfl⟩
                obtain ⟨a1, ha1⟩ : ∃ x, by8 (e.bs.getD 1 0) = x := ⟨_, rfl⟩
                obtain ⟨ky, hky⟩ : ∃ x, keyB e.bs = x := ⟨_, rfl⟩
                rw [ha0, ha1, hky] at hkey
                rw [ha0] at hb0 hb0' q1
                rw [ha1] at hb1 hb1' q2
                have HGD := Lib.hid hgd
                rw [hky] at hcp hlate hset hkl
                have HCP := Lib.hid hcp
                have HLA := Lib.hid hlate
                have HST := Lib.hid hset
                have HKY := Lib.hid hky
                have HKE := Lib.hid hkey
                have g5 : (j : Int) < (outs.length : Int) := by omega
                have wa : IntKind.i64.wrap a0 = a0 := IntWalk.i64_in _ (by omega)
                have wb : IntKind.i64.wrap a1 = a1 := IntWalk.i64_in _ (by omega)
                have wc1 : IntKind.i64.wrap (256 * a1) = 256 * a1 := IntWalk.i64_in _ (by omega)
                have wc2 : IntKind.i64.wrap (a0 + 256 * a1) = a0 + 256 * a1 := IntWalk.i64_in _ (by omega)
                clear he hgd hcp hlate hset hat hky hkey ha0 ha1 hea hed
                go_upto_region 32 with fail
                go_quiet (fail)
                rw [← HKE.out]
                have HT4 := Lib.hid (HT3.out.nil ((Only.refl Nil wr).drewN nq))
                have HU4 := Lib.hid (HU3.out.nil ((Only.refl Nil wr).drewN nq))
                have g6 : ¬ (k : Int) < (ky : Int) := by omega
                clear q0 q1 q2 wa wb wc1 wc2 hb0 hb0' hb1 hb1' HKE HT3 HU3
                generalize wr.drewN nq = wa at *
                obtain ⟨bg, hbg⟩ : ∃ x, wa.heap.size = x := ⟨_, rfl⟩
                go_upto_region 36 with fail
                have HBG := Lib.hid hbg
                refine wp_gen (fun W => Only Nil wa W ∧ Blk W bg 46 [.bool false, .int .i64 0, .int .i64 0]) ⟨(Only.refl _ _).alloc _, hbg ▸ Blk.new wa _ _⟩ ?_
                clear hbg
                rintro wb ⟨hob, hbb⟩
                have HOB := Lib.hid hob
                have HBB := Lib.hid hbb
                obtain ⟨gf, hgf⟩ : ∃ f, fs.getD ky ft0 = f := ⟨_, rfl⟩
                have HGF := Lib.hid hgf
                clear hob hbb hgf
                go_upto_if 131 with fail
                go_cut [] (fun wx => Only Nil wa wx ∧ Blk wx bg 46 [.bool gf.lost, .int .i64 gf.delay, .int .i64 gf.twin])
                case first => as_aux_lemma =>
                  -- [[
                  by_cases hkf : ky < fs.length
                  · obtain ⟨g, o, c, e', q0, q1, q2⟩ := (HF.out wb (HT4.out.wr.only.then HOB.out)).at' hkf
                    injection e' with e1 _ e3
                    subst e1 e3
                    rw [HGF.out] at q0 q1 q2
                    have d0 : decide (ky < fs.length) = true := by simp [hkf]
                    have g3 : (ky : Int) < (fs.length : Int) := by omega
                    have b0 : wb.cell? ⟨bg, 0, none⟩ = some (.bool false) := HBB.out.cell 0
                    have b1 : wb.cell? ⟨bg, 1, none⟩ = some (.int .i64 0) := HBB.out.cell 1
                    have b2 : wb.cell? ⟨bg, 2, none⟩ = some (.int .i64 0) := HBB.out.cell 2
                    have fb := HBB.out.free
                    rw [d0]
                    go_wp2
                    go_meet
                    have hge := Nat.le_of_eq HBG.out
                    exact ⟨((HOB.out.setCell (p := ⟨bg, 0, none⟩) (.inr hge) _).setCell (p := ⟨bg, 1, none⟩) (.inr hge) _).setCell (p := ⟨bg, 2, none⟩) (.inr hge) _, ((HBB.out.set 0 (.bool gf.lost)).set 1 (.int .i64 gf.delay)).set 2 (.int .i64 gf.twin)⟩
                  · have d0 : decide (ky < fs.length) = false := by simp; omega
                    have hf0 : gf = ft0 := by rw [← HGF.out]; simp [List.getD, List.getElem?_eq_none (show fs.length ≤ ky by omega)]
                    have HF0 := Lib.hid hf0
                    rw [d0]
                    clear hf0 hkf
                    go_wp2
                    go_meet
                    exact ⟨HOB.out, by rw [HF0.out]; exact HBB.out⟩
                  -- ]]
                case rest =>
                  obtain ⟨hoc, hbc⟩ := hcut
                  have hfl : fr2.length = k + 1 := HO6.out.frl
                  have hcl : (CM cm3).length = k + 1 := by unfold CM; rw [List.length_map]; exact HC3.out
                  have hT5 := HT4.out.nil hoc
                  have HT5 := Lib.hid hT5
                  have HU5 := Lib.hid (HU4.out.nil hoc)
                  obtain ⟨gA, cA, eA, _, _, _, hcA⟩ := hT5.fr.at' (by omega)
                  injection eA with eA hx1 hx2
                  injection eA with eA
                  injection eA with eA hx3 hx4
                  subst eA
                  clear hx1 hx2 hx3 hx4
                  obtain ⟨gB, cB, eB, _, _, hfB, hcB⟩ := hT5.cm.at' (by omega)
                  injection eB with eB hx1 hx2
                  injection eB with eB
                  injection eB with eB hx3 hx4
                  subst eB
                  clear hx1 hx2 hx3 hx4
                  have r0 := hcA ky (by omega)
                  have s0 := hcB ky (by omega)
                  obtain ⟨fq, hfq⟩ : ∃ x, fr2.getD ky 0 = x := ⟨_, rfl⟩
                  obtain ⟨cq, hcq⟩ : ∃ x, cm3.getD ky 0 = x := ⟨_, rfl⟩
                  have hcq2 : (CM cm3).getD ky 0 = (cq : Int) := by rw [← hcq]; simp [CM, List.getD, show ky < cm3.length by rw [HC3.out]; omega]
                  rw [hfq] at r0
                  rw [hcq2] at s0
                  have hfrb := HO6.out.frb ky hkl
                  rw [hfq] at hfrb
                  have hcp := HCP.out
                  rw [hcq, HGF.out] at hcp
                  have hla := HLA.out
                  rw [HGF.out, hfq] at hla
                  have hlo := HGD.out.lost
                  rw [HKY.out, HGF.out] at hlo
                  have hnn := HN.out
                  have b0 : wc.cell? ⟨bg, 0, none⟩ = some (.bool gf.lost) := hbc.cell 0
                  have b1 : wc.cell? ⟨bg, 1, none⟩ = some (.int .i64 gf.delay) := hbc.cell 1
                  have b2 : wc.cell? ⟨bg, 2, none⟩ = some (.int .i64 gf.twin) := hbc.cell 2
                  obtain ⟨gll, gd, gt⟩ := gf
                  dsimp only at b0 b1 b2 hla hlo
                  subst hlo
                  have wl : IntKind.i64.wrap (nw' - fq) = nw' - fq := IntWalk.i64_in _ (by omega)
                  have hcb : cq + 1 ≤ 2 := by
                    have : copies ⟨false, gd, gt⟩ ≤ 2 := by unfold copies; rw [if_neg (by simp)]; split <;> omega
                    omega
                  have htw : ¬ 0 < gt → cq + 1 ≤ 1 := fun h => by
                    unfold copies at hcp
                    rw [if_neg (by simp), if_neg h] at hcp
                    exact hcp
                  have wq : IntKind.i64.wrap ((cq : Int) + 1) = (cq : Int) + 1 := IntWalk.i64_in _ (by omega)
                  have gk : (ky : Int) < (k : Int) + 1 := by omega
                  have gk0 : (0 : Int) ≤ (ky : Int) := by omega
                  have fz := hfB ky
                  have HTW := Lib.hid htw
                  have HLA2 := Lib.hid hla
                  have HBC := Lib.hid hbc
                  have HOC := Lib.hid hoc
                  have HCQ := Lib.hid hcq
                  have HFB := Lib.hid hfrb
                  have HCB := Lib.hid hcb
                  have HKL2 := Lib.hid hkl
                  clear hfl hcl hT5 hcA hfB hcB hfq hcq hcq2 hfrb hcp hla hnn hbc hoc htw hcb HT4 HU4
                  go_upto_region 40 with fail
                  have hcmset : CM (cm3.set ky (cq + 1)) = (CM cm3).set ky ((cq : Int) + 1) := by unfold CM; rw [List.map_set]; rfl
                  have hkc : ky < (CM cm3).length := by unfold CM; rw [List.length_map, HC3.out]; exact HKL2.out
                  refine wp_gen (fun W => Two w b (dueS s' nw') (.slice (some ⟨g7, 0, none⟩) (k + 1) cap7) (.slice (some ⟨g8, 0, none⟩) (k + 1) cap8) fr2 (CM (cm3.set ky (cq + 1))) W ∧ Outs w (.slice (some ⟨gl, 0, none⟩) outs.length cl) outs W ∧ Blk W bg 46 [.bool false, .int .i64 gd, .int .i64 gt] ∧ W.cell? ⟨g7, ky, none⟩ = some (.int .i64 fq) ∧ W.cell? ⟨g8, ky, none⟩ = some (.int .i64 ((cq : Int) + 1))) ?_ ?_
                  · refine ⟨by rw [hcmset]; exact HT5.out.setC hkc _, HU5.out.setC HT5.out.cm _ _, HBC.out.far (p := ⟨g8, ky, none⟩) (fun e => row_ne HT5.out.cm HBC.out (by rw [e]; rfl)) _, ?_, ?_⟩
                    · exact (((Only.refl (One g8) wc).setCell (p := ⟨g8, ky, none⟩) (.inl (One.self g8)) _).cell r0 fun e => HT5.out.ne g7 rfl (by rw [show g7 = g8 from e]; rfl))
                    · exact World.cell?_setCell_same _ _ _ s0
                  clear r0 s0 b0 b1 b2 hcmset hkc fz
                  rintro wd ⟨hTd, hUd, hbd, r0, s0⟩
                  have HTd := Lib.hid hTd
                  have HUd := Lib.hid hUd
                  have b0 : wd.cell? ⟨bg, 0, none⟩ = some (.bool false) := hbd.cell 0
                  have b1 : wd.cell? ⟨bg, 1, none⟩ = some (.int .i64 gd) := hbd.cell 1
                  have b2 : wd.cell? ⟨bg, 2, none⟩ = some (.int .i64 gt) := hbd.cell 2
                  have wm : IntKind.i64.wrap (1125899906842624 - fq) = 1125899906842624 - fq := IntWalk.i64_in _ (by have := HFB.out; have := HN.out; omega)
                  have d1 : decide (2 < (cq : Int) + 1) = false := by have := HCB.out; simp; omega
                  clear hTd hUd hbd HT5 HU5
                  have hub : s'.ways.length ≤ 10000 := by have := HO6.out.len; omega
                  obtain ⟨U, hU⟩ : ∃ x, s'.ways.length - j = x := ⟨_, rfl⟩
                  have hU2 : s'.ways.length - (j + 1) = U - 1 := by omega
                  have hU3 : 0 < U := by omega
                  have HUU := Lib.hid (show s'.ways.length - (j + 1) = U - 1 ∧ 0 < U from ⟨hU2, hU3⟩)
                  rw [hU]
                  have wu : IntKind.i64.wrap ((U : Int) - 1) = (U : Int) - 1 := IntWalk.i64_in _ (by omega)
                  have HRL := Lib.hid (show ∀ q, q < k + 1 → (cm3.set ky (cq + 1)).getD q 0 = cm2.getD q 0 + cnt q (outs.take (j + 1)) from fun q hq => by
                    have := (HST.out q hq).2 HC3.out
                    rw [HOU.out, HCQ.out] at this
                    exact this)
                  have HJL := Lib.hid hjl
                  have hla := HLA2.out
                  have htw := HTW.out
                  have hcb := HCB.out
                  have hjb : j ≤ 10000 := by omega
                  clear hub hU hU2 hU3 hle hj hjl
                  have hmin : (if 1125899906842624 - fq < gd then 1125899906842624 - fq else gd) ≤ nw' - fq := by omega
                  by_cases hc2 : cq + 1 = 2
                  · have htp : 0 < gt := by omega
                    have e1 : ((cq : Int) + 1 == 2) = true := by simp; omega
                    have e2 : decide (gt ≤ 0) = false := by simp; omega
                    clear hc2 hla htw hcb
                    by_cases hmm : 1125899906842624 - fq < gd
                    · have hl1 : decide (nw' < 1125899906842624) = false := by rw [if_pos hmm] at hmin; simp; omega
                      clear hmin
                      go_quiet (fail)
                      go_wp2
                      go_roundw
                      case rel => exact ⟨j + 1, cm3.set ky (cq + 1), by have := HJL.out; go_num, by have := HJL.out; omega, by have := HUU.out; go_num, by rw [List.length_set]; exact HC3.out, HRL.out, HTd.out.nil ((Only.refl Nil wd).drewN nq), HUd.out.nil ((Only.refl Nil wd).drewN nq)⟩
                      case measure => have := HJL.out; simp only [intOf]; omega
                    · have hl1 : decide (nw' - fq < gd) = false := by rw [if_neg hmm] at hmin; simp; omega
                      clear hmin
                      go_quiet (fail)
                      go_wp2
                      go_roundw
                      case rel => exact ⟨j + 1, cm3.set ky (cq + 1), by have := HJL.out; go_num, by have := HJL.out; omega, by have := HUU.out; go_num, by rw [List.length_set]; exact HC3.out, HRL.out, HTd.out.nil ((Only.refl Nil wd).drewN nq), HUd.out.nil ((Only.refl Nil wd).drewN nq)⟩
                      case measure => have := HJL.out; simp only [intOf]; omega
                  · have e1 : ((cq : Int) + 1 == 2) = false := by simp; omega
                    clear hc2 hla htw hcb
                    by_cases hmm : 1125899906842624 - fq < gd
                    · have hl1 : decide (nw' < 1125899906842624) = false := by rw [if_pos hmm] at hmin; simp; omega
                      clear hmin
                      go_quiet (fail)
                      go_wp2
                      go_roundw
                      case rel => exact ⟨j + 1, cm3.set ky (cq + 1), by have := HJL.out; go_num, by have := HJL.out; omega, by have := HUU.out; go_num, by rw [List.length_set]; exact HC3.out, HRL.out, HTd.out.nil ((Only.refl Nil wd).drewN nq), HUd.out.nil ((Only.refl Nil wd).drewN nq)⟩
                      case measure => have := HJL.out; simp only [intOf]; omega
                    · have hl1 : decide (nw' - fq < gd) = false := by rw [if_neg hmm] at hmin; simp; omega
                      clear hmin
                      go_quiet (fail)
                      go_wp2
                      go_roundw
                      case rel => exact ⟨j + 1, cm3.set ky (cq + 1), by have := HJL.out; go_num, by have := HJL.out; omega, by have := HUU.out; go_num, by rw [List.length_set]; exact HC3.out, HRL.out, HTd.out.nil ((Only.refl Nil wd).drewN nq), HUd.out.nil ((Only.refl Nil wd).drewN nq)⟩
                      case measure => have := HJL.out; simp only [intOf]; omega
              · have hjo : j = outs.length := by omega
                -- [[
                obtain rfl : j = outs.length := hjo
                obtain ⟨hO9, _, _, hmin, hsum, hlo⟩ := due_once HO6.out HN.out HC3.out (fun q hq => by have := HM3.out q hq; rw [List.take_length] at this; rw [HOU.out]; exact this)
                rw [HOU.out] at hsum
                have hnx := HT3.out.wr.next
                have hln := HT3.out.wr.len
                have hls := HT3.out.wr.lost
                obtain ⟨S, hS⟩ : ∃ x, dueS s' nw' = x := ⟨_, rfl⟩
                rw [hS] at hO9 hmin hsum hlo hnx hln hls HT3
                have hwl : s'.ways.length - outs.length = S.ways.length := by omega
                rw [hwl, ← hlo]
                have HO9 := Lib.hid hO9
                have HLN := Lib.hid hln
                have HLS := Lib.hid hls
                have HKK := Lib.hid (show k + 1 ≤ ws.length ∧ k + 1 ≤ 2000 by have := HLT.out; omega)
                have g5 : ¬ (outs.length : Int) < (outs.length : Int) := by omega
                clear hO9 hsum hlo hln hls hS hwl hle HU3
                by_cases h0 : S.ways.length = 0
                · have hnp : nextP S = (0, false) := by unfold nextP; rw [if_pos h0]
                  rw [hnp] at hnx
                  have HNX := Lib.hid hnx
                  have HH0 := Lib.hid h0
                  rw [h0] at HLN ⊢
                  clear hnx hnp hmin h0
                  go_wp2_with (first
                    | (go_at_call 15; refine HNX.out.mono ?_; rintro e w6' ⟨rfl, rfl⟩)
                    | (go_at_call 16; refine HLN.out.mono ?_; rintro e w6' ⟨rfl, rfl⟩)
                    | (go_at_call 17; refine HLS.out.mono ?_; rintro e w6' ⟨rfl, rfl⟩))
                  go_roundw
                  case rel => exact ⟨k + 1, nw', fr2, cm3, S, HKK.out.1, HKK.out.2, by go_num, rfl, rfl, by rw [HH0.out]; rfl, HO9.out, HT3.out⟩
                  case measure => simp only [intOf]; omega
                · have hnp : nextP S = ((S.ways.getD 0 wy0).due, true) := by unfold nextP; rw [if_neg h0]
                  rw [hnp] at hnx
                  have HNX := Lib.hid hnx
                  have hd := hmin (by omega)
                  generalize (S.ways.getD 0 wy0).due = nd at *
                  obtain ⟨L, hL⟩ : ∃ x, S.ways.length = x := ⟨_, rfl⟩
                  have HL := Lib.hid hL
                  rw [hL] at HLN h0 ⊢
                  have g6 : (0 : Int) < (L : Int) := by omega
                  have hnd : ¬ nd ≤ nw' := by omega
                  clear hnx hnp hmin h0 hL
                  go_wp2_with (first
                    | (go_at_call 15; refine HNX.out.mono ?_; rintro e w6' ⟨rfl, rfl⟩)
                    | (go_at_call 16; refine HLN.out.mono ?_; rintro e w6' ⟨rfl, rfl⟩)
                    | (go_at_call 17; refine HLS.out.mono ?_; rintro e w6' ⟨rfl, rfl⟩))
                  go_roundw
                  case rel => exact ⟨k + 1, nw', fr2, cm3, S, HKK.out.1, HKK.out.2, by go_num, rfl, rfl, by rw [HL.out], HO9.out, HT3.out⟩
                  case measure => simp only [intOf]; omega
                -- ]]
    · have HT := Lib.hid hT
      clear hO hT
      by_cases h1 : k < ws.length
      · have g1 : (k : Int) < (ws.length : Int) := by omega
        have g2 : ¬ (k : Int) < 2000 := by omega
        go_wp2
        go_ret
        exact ⟨rfl, HT.out.wr.only⟩
      · have g1 : ¬ (k : Int) < (ws.length : Int) := by omega
        go_wp2
        go_ret
        exact ⟨rfl, HT.out.wr.only⟩
end Go.Proofs.Ytkkjnembjlgiaaa
