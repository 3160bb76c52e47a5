/-
  JudgeLets answers true for every configuration and every script of a simple system: the walk, and the given row proved, for arguments of at most so great a bulk.
-/
import Derived.Test.YthoaeolohnalnaaPi
import Derived.Test.YthoaeolohnalnaaRow4
import Derived.Test.YthoaeolohnalnaaBulkJ
namespace Go.Proofs.Ythoaeolohnalnaa
open Go.RowKit

/-- 'v' is a slice of acts that reads as l. -/
def act0 : PAct := ⟨0, 0, 0, 0⟩
def PAct.cells (a : PAct) : List Value := [.int .i64 a.kind, .int .i64 a.ticks, .int .i64 a.n, .int .u32 a.ip]
def Acts (W : World) (v : Value) (l : List PAct) : Prop :=
  ∃ A c, v = .slice A l.length c ∧ l.length ≤ c ∧ (0 < l.length → ∃ g o, A = some ⟨g, o, none⟩ ∧ ∀ j, j < l.length → (∀ i, i < 4 → W.cell? ⟨g, o + j * 4 + i, none⟩ = (l.getD j act0).cells[i]?) ∧ 0 ≤ (l.getD j act0).ip ∧ (l.getD j act0).ip < 4294967296)
theorem Acts.nil {W W' : World} {v : Value} {l : List PAct} (h : Acts W v l) (ho : Only Nil W W') : Acts W' v l := by
  obtain ⟨A, c, rfl, hc, hr⟩ := h
  refine ⟨A, c, rfl, hc, fun h0 => ?_⟩
  obtain ⟨g, o, rfl, hcell⟩ := hr h0
  refine ⟨g, o, rfl, fun j hj => ⟨fun i hi => ?_, (hcell j hj).2⟩⟩
  have h1 := (hcell j hj).1 i hi
  have hi4 : i < (l.getD j act0).cells.length := hi
  rw [List.getElem?_eq_getElem hi4] at h1 ⊢
  exact ho.cell h1 id
theorem Acts.at {W : World} {A : Option Addr} {c : Nat} {l : List PAct} (h : Acts W (.slice A l.length c) l) {k : Nat} (hk : k < l.length) :
    ∃ g o, A = some ⟨g, o, none⟩ ∧ (∀ i, i < 4 → W.cell? ⟨g, o + k * 4 + i, none⟩ = (l.getD k act0).cells[i]?) ∧ 0 ≤ (l.getD k act0).ip ∧ (l.getD k act0).ip < 4294967296 := by
  obtain ⟨A', c', e, hc, hr⟩ := h
  injection e with e1 _ e3
  subst e1 e3
  obtain ⟨g, o, rfl, hcell⟩ := hr (by omega)
  exact ⟨g, o, rfl, hcell k hk⟩
def py0 : Py := ⟨0, 0, 0, 0, false, false, false, 0⟩
theorem good0 (c : Cfg) : Good c [] py0 := by
  refine ⟨fun k hk => absurd hk (by simp), ⟨rfl, fun h => (by cases h), rfl, rfl, rfl, fun _ => rfl, rfl, Int.le_refl _, fun h => (by cases h), by decide, by decide⟩, by decide⟩
theorem doesQ_len (c : Cfg) (l : List Ev) (s : Py) (a : PAct) (gd : Nat) : (doesQ c l s a gd).1.length ≤ l.length + 6 := by
  have h1 : ∀ (l : List Ev) (s : Py) (why : Int), (failQ c l s why).1.length ≤ l.length + 2 := fun l s why => by
    unfold failQ
    split <;> simp
  have h2 : ∀ (l : List Ev) (s : Py), (dropQ c l s).1.length ≤ l.length + 3 := fun l s => by
    unfold dropQ
    split
    · have := h1 (l ++ [evD s.now s.ip]) { s with held := false } 6
      simp only [List.length_append, List.length_singleton] at this
      omega
    · simp
  have h3 : (lapseQ c l (tickQ s a)).1.length ≤ l.length + 3 := by
    unfold lapseQ
    split
    · exact h2 _ _
    · simp
  unfold doesQ
  generalize (lapseQ c l (tickQ s a)).1 = l2 at *
  generalize (lapseQ c l (tickQ s a)).2 = s2
  have h4 : (actQ c l2 s2 a gd).1.length ≤ l2.length + 3 := by
    unfold actQ
    repeat' split
    all_goals
      first
        | simp; done
        | exact h2 _ _
        | (have := h1 l2 s2 a.n; omega)
        | (have := h1 l2 s2 7; omega)
  omega
theorem good_does {c : Cfg} {l : List Ev} {s : Py} (hc : c.ok) (h : Good c l s) (a : PAct) (ha : 0 ≤ a.ip ∧ a.ip < 4294967296) (gd : Nat) : Good c (doesQ c l s a gd).1 (doesQ c l s a gd).2 ∧ lapsQ (doesQ c l s a gd).2 = false := by
  obtain ⟨h1, h2⟩ := good_lapse (good_tick h a)
  exact good_act hc h1 h2 ha
/-- What the walk knows of a world. -/
def LetS (w W : World) (g b : Nat) (c : Cfg) (v : Value) (l : List Ev) (s : Py) : Prop := PlAt W g g c v l s ∧ Only Nil w W ∧ Blk W b 26 c.cells
theorem LetS.only {w W W' : World} {g b : Nat} {c : Cfg} {v : Value} {l : List Ev} {s : Py} (h : LetS w W g b c v l s) (ho : Only Nil W W') : LetS w W' g b c v l s := ⟨h.1.nil ho, h.2.1.then ho, ho.blk h.2.2 id⟩
theorem built_play (cs : List Value) (h : cs.length = 45) : Try.prog.built 41 [(0, .agg cs.toArray)] = some (cs ++ py0.tail (.slice none 0 0)).toArray := by
  match cs, h with
  | v0 :: v1 :: v2 :: v3 :: v4 :: v5 :: v6 :: v7 :: v8 :: v9 :: v10 :: v11 :: v12 :: v13 :: v14 :: v15 :: v16 :: v17 :: v18 :: v19 :: v20 :: v21 :: v22 :: v23 :: v24 :: v25 :: v26 :: v27 :: v28 :: v29 :: v30 :: v31 :: v32 :: v33 :: v34 :: v35 :: v36 :: v37 :: v38 :: v39 :: v40 :: v41 :: v42 :: v43 :: v44 :: [], _ =>
    show _ = _
    kernel_rfl
set_option maxHeartbeats 6400000 in
set_option maxRecDepth 100000 in
theorem lets_any (c : Cfg) (v : Value) (sc : List PAct) (w : World) (hc : c.ok) (hv : Acts w v sc) (hn : sc.length ≤ 1048576) :
    Calls Try.prog 4 #[.agg c.cells.toArray, v] w fun r w' => r = .returned (.bool true) ∧ Only Nil w w' := by
  have hsz : c.cells.toArray.size = 45 := by rw [List.size_toArray, hc.length]
  have HV := Lib.hid (show ∀ W, Only Nil w W → Acts W v sc from fun W ho => hv.nil ho)
  have HC := Lib.hid hc
  obtain ⟨A, cp, rfl, hcp, hq⟩ := hv
  clear hc hq
  go_enter Try.func4, Try.ntmps4
  go_upto_region 1 with fail
  obtain ⟨b, hb⟩ : ∃ b, w.heap.size = b := ⟨_, rfl⟩
  have HB := Lib.hid hb
  refine wp_gen (fun W => Only Nil w W ∧ Blk W b 26 c.cells) ⟨(Only.refl _ _).alloc _, hb ▸ Blk.new w _ _⟩ ?_
  rw [hb]
  clear hb
  intro w1 h1
  have H1 := Lib.hid h1
  clear h1
  go_upto_region 2 with (go_at_call 11; refine (live_any _).mono ?_; rintro r w2 ⟨rfl, ho2⟩)
  refine wp_gen (fun W => Only Nil w W ∧ Blk W b 26 c.cells) ⟨H1.out.1.then ho2, ho2.blk H1.out.2 id⟩ ?_
  clear H1 ho2
  intro w1 h1
  have H1 := Lib.hid h1
  clear h1
  go_upto_region 5 with (first
    | ((with_reducible show wpList _ _ _ (Oper.mk _ (.load 26 _) _ _ _ _ :: _) _ _); refine wpList_load_row rfl 26 (.tmp 2) rfl b rfl 26 c.cells.toArray (0, 0) _ H1.out.2 Try.underlying26 rfl (by rw [hsz]; kernel_rfl) ?_)
    | ((with_reducible show wpList _ _ _ (Oper.mk _ (.build 41 _) _ _ _ _ :: _) _ _); refine wpList_built rfl 41 _ rfl [(0, .agg c.cells.toArray)] (by kernel_rfl) (c.cells ++ py0.tail (.slice none 0 0)).toArray (built_play c.cells HC.out.length) ?_))
  obtain ⟨g, hg⟩ : ∃ g, w1.heap.size = g := ⟨_, rfl⟩
  have HG := Lib.hid (show w.heap.size ≤ g by rw [← hg]; exact H1.out.1.size)
  have HS := Lib.hid (show LetS w (w1.alloc (.cells (c.cells ++ py0.tail (.slice none 0 0)).toArray 41)) g b c (.slice none 0 0) [] py0 from
    ⟨⟨HC.out, hg ▸ Blk.new w1 _ _, ⟨rfl, .inl ⟨rfl, rfl⟩⟩, fun j hj => absurd hj (by simp), Nat.le_refl _, by rw [← hg]; simp⟩, H1.out.1.alloc _, H1.out.2.alloc _⟩)
  (try rw [hg])
  clear H1 hg
  go_upto_region 6 with fail
  go_loopw [7] (fun i wr => ∃ (k : Nat) (v : Value) (l : List Ev) (s : Py), k ≤ sc.length ∧ i = .int .i64 (k : Nat) ∧ LetS w wr g b c v l s ∧ Good c l s ∧ l.length ≤ 6 * k) (fun i _ => sc.length - (intOf i).toNat)
  case atStart => exact ⟨0, _, [], py0, Nat.zero_le _, rfl, HS.out, good0 c, Nat.zero_le _⟩
  case round =>
    clear HS
    obtain ⟨k, vl, l, s, hk, rfl, hS, hGd, hl6⟩ := hrel
    have HS := Lib.hid hS
    have HGd := Lib.hid hGd
    clear hS hGd
    by_cases hlt : k < sc.length
    · have g1 : (k : Int) < (sc.length : Int) := by omega
      obtain ⟨ga, o, rfl, hcell, i0, i1⟩ := (HV.out _ HS.out.2.1).at hlt
      have HNX := Lib.hid (show ∀ gd, Good c (doesQ c l s (sc.getD k act0) gd).1 (doesQ c l s (sc.getD k act0) gd).2 ∧ lapsQ (doesQ c l s (sc.getD k act0) gd).2 = false from fun gd => good_does HC.out HGd.out _ ⟨i0, i1⟩ gd)
      have hlk := HGd.out.link
      have hdoes := does_any g g c vl l s (sc.getD k act0) wr HS.out.1 (by omega) HGd.out.fails.1 (by have := HGd.out.fails.2; omega) hlk.now0.1 hlk.now0.2 hlk.ip0.1 hlk.ip0.2 i0 i1
      have HDL := Lib.hid (show ∀ gd, (doesQ c l s (sc.getD k act0) gd).1.length ≤ l.length + 6 from fun gd => doesQ_len c l s _ gd)
      clear hlk i0 i1
      generalize sc.getD k act0 = ac at *
      obtain ⟨kind, ticks, n, aip⟩ := ac
      have q0 : wr.cell? ⟨ga, o + k * 4, none⟩ = some (.int .i64 kind) := hcell 0 (by omega)
      have q1 : wr.cell? ⟨ga, o + k * 4 + 1, none⟩ = some (.int .i64 ticks) := hcell 1 (by omega)
      have q2 : wr.cell? ⟨ga, o + k * 4 + 2, none⟩ = some (.int .i64 n) := hcell 2 (by omega)
      have q3 : wr.cell? ⟨ga, o + k * 4 + 3, none⟩ = some (.int .u32 aip) := hcell 3 (by omega)
      unfold PAct.v at hdoes
      have HDo := Lib.hid hdoes
      clear hcell hdoes
      go_upto_region 9 with (go_at_call 14; refine HDo.out.mono ?_; rintro r w4 ⟨gd, rfl, ⟨v4, hp4⟩, ho4⟩)
      have HG2 := Lib.hid (HNX.out gd)
      have hl7 := HDL.out gd
      have HS2 := Lib.hid (show LetS w w4 g b c v4 (doesQ c l s ⟨kind, ticks, n, aip⟩ gd).1 (doesQ c l s ⟨kind, ticks, n, aip⟩ gd).2 from ⟨hp4, HS.out.2.1.trans ho4.1 fun i hi => .inr (Nat.le_trans HG.out hi), ho4.2 _ _ _ HS.out.2.2 (by decide) (by decide)⟩)
      clear HDo HDL HNX hp4 ho4 HS HGd q0 q1 q2 q3
      generalize (doesQ c l s ⟨kind, ticks, n, aip⟩ gd).1 = l2 at *
      generalize (doesQ c l s ⟨kind, ticks, n, aip⟩ gd).2 = s2 at *
      have HGd := Lib.hid HG2.out.1
      obtain ⟨A4, c4, rfl, hc4, hq4⟩ := ownN_form HS2.out.1.own
      clear hc4 hq4
      have hcall := judge_any c _ l2 w4.drew HC.out (HS2.out.only (Only.refl Nil w4).drew).1.evs (by omega)
      have hblk : Blk w4.drew b 26 c.cells := HS2.out.2.2.drew
      have q45 : w4.drew.cell? ⟨g, 45, none⟩ = some (.slice A4 l2.length c4) := HS2.out.1.cL
      have HS2 := Lib.hid (HS2.out.only (Only.refl Nil w4).drew)
      go_cut [8, 9, 10] (fun t8 t9 t10 wx => t8 = .int .i64 (-1) ∧ t9 = .int .i64 0 ∧ t10 = .int .i64 0 ∧ LetS w wx g b c (.slice A4 l2.length c4) l2 s2)
      case first =>
        refine wp_region_any (by kernel_rfl) ?_
        change wpAny _ _ _ _ _ _ _ (World.drew _)
        refine wpAny_take (i := 1) (v := ?_) rfl (by kernel_rfl) (by kernel_rfl) (by kernel_rfl) (fun _ _ _ h => h) (Or.inl ⟨by rfl, by intro w; go_simp; try (with_reducible rfl)⟩) ?_
        refine wpAny_take (i := 2) (v := ?_) rfl (by kernel_rfl) (by kernel_rfl) (by kernel_rfl) (fun _ _ _ h => h) (Or.inl ⟨by rfl, by intro w; go_simp; try (with_reducible rfl)⟩) ?_
        refine wpAny_take (i := 3) (v := ?_) rfl (by kernel_rfl) (by kernel_rfl) (by kernel_rfl) (fun _ _ _ h => h) (Or.inl ⟨by rfl, by intro w; go_simp; try (with_reducible rfl)⟩) ?_
        refine wpAny_ready (rs := [0, 4]) (by kernel_rfl) (by simp) ?_
        refine AllReady.cons rfl (fun K hK => ?_) (AllReady.cons rfl (fun K hK => ?_) AllReady.nil)
        · refine step_load_row rfl 26 (.tmp 2) rfl b rfl 26 c.cells.toArray (0, 0) _ hblk Try.underlying26 rfl (by rw [hsz]; kernel_rfl) ?_
          refine hK _ _ ?_
          clear hK K
          refine wpAny_ready (rs := [4]) (by kernel_rfl) (by simp) ?_
          refine AllReady.cons rfl (fun K hK => ?_) AllReady.nil
          go_simp
          refine hK _ _ ?_
          clear hK K
          refine wpAny_ready (rs := [5]) (by kernel_rfl) (by simp) ?_
          refine AllReady.cons rfl (fun K hK => ?_) AllReady.nil
          go_simp
          go_at_call 12
          refine hcall.mono ?_
          rintro r w5 ⟨⟨a', x', y', rfl, hs'⟩, ho5⟩
          obtain ⟨rfl, rfl, rfl⟩ := good_says HGd.out hs'
          try go_simp
          try (refine hK _ _ ?_; clear hK K)
          refine wpAny_take (i := 6) (v := ?_) rfl (by kernel_rfl) (by kernel_rfl) (by kernel_rfl) (fun _ _ _ h => h) (Or.inl ⟨by rfl, by intro w; go_simp; try (with_reducible rfl)⟩) ?_
          refine wpAny_take (i := 7) (v := ?_) rfl (by kernel_rfl) (by kernel_rfl) (by kernel_rfl) (fun _ _ _ h => h) (Or.inl ⟨by rfl, by intro w; go_simp; try (with_reducible rfl)⟩) ?_
          refine wpAny_take (i := 8) (v := ?_) rfl (by kernel_rfl) (by kernel_rfl) (by kernel_rfl) (fun _ _ _ h => h) (Or.inl ⟨by rfl, by intro w; go_simp; try (with_reducible rfl)⟩) ?_
          refine wpAny_take (i := 9) (v := ?_) rfl (by kernel_rfl) (by kernel_rfl) (by kernel_rfl) (fun _ _ _ h => h) (Or.inl ⟨by rfl, by intro w; go_simp; try (with_reducible rfl)⟩) ?_
          refine wpAny_take (i := 10) (v := ?_) rfl (by kernel_rfl) (by kernel_rfl) (by kernel_rfl) (fun _ _ _ h => h) (Or.inl ⟨by rfl, by intro w; go_simp; try (with_reducible rfl)⟩) ?_
          refine wpAny_take (i := 11) (v := ?_) rfl (by kernel_rfl) (by kernel_rfl) (by kernel_rfl) (fun _ _ _ h => h) (Or.inl ⟨by rfl, by intro w; go_simp; try (with_reducible rfl)⟩) ?_
          refine wpAny_take (i := 12) (v := ?_) rfl (by kernel_rfl) (by kernel_rfl) (by kernel_rfl) (fun _ _ _ h => h) (Or.inl ⟨by rfl, by intro w; go_simp; try (with_reducible rfl)⟩) ?_
          refine wpAny_done (by kernel_rfl) ?_ _
          have HE := Lib.hid (HS2.out.only ho5)
          clear hs' ho5 hcall
          go_simp
          go_wp2_with fail
          go_meet
          exact ⟨rfl, rfl, rfl, HE.out⟩
        · go_simp
          refine hK _ _ ?_
          clear hK K
          refine wpAny_ready (rs := [0]) (by kernel_rfl) (by simp) ?_
          refine AllReady.cons rfl (fun K hK => ?_) AllReady.nil
          refine step_load_row rfl 26 (.tmp 2) rfl b rfl 26 c.cells.toArray (0, 0) _ hblk Try.underlying26 rfl (by rw [hsz]; kernel_rfl) ?_
          refine hK _ _ ?_
          clear hK K
          refine wpAny_ready (rs := [5]) (by kernel_rfl) (by simp) ?_
          refine AllReady.cons rfl (fun K hK => ?_) AllReady.nil
          go_simp
          go_at_call 12
          refine hcall.mono ?_
          rintro r w5 ⟨⟨a', x', y', rfl, hs'⟩, ho5⟩
          obtain ⟨rfl, rfl, rfl⟩ := good_says HGd.out hs'
          try go_simp
          try (refine hK _ _ ?_; clear hK K)
          refine wpAny_take (i := 6) (v := ?_) rfl (by kernel_rfl) (by kernel_rfl) (by kernel_rfl) (fun _ _ _ h => h) (Or.inl ⟨by rfl, by intro w; go_simp; try (with_reducible rfl)⟩) ?_
          refine wpAny_take (i := 7) (v := ?_) rfl (by kernel_rfl) (by kernel_rfl) (by kernel_rfl) (fun _ _ _ h => h) (Or.inl ⟨by rfl, by intro w; go_simp; try (with_reducible rfl)⟩) ?_
          refine wpAny_take (i := 8) (v := ?_) rfl (by kernel_rfl) (by kernel_rfl) (by kernel_rfl) (fun _ _ _ h => h) (Or.inl ⟨by rfl, by intro w; go_simp; try (with_reducible rfl)⟩) ?_
          refine wpAny_take (i := 9) (v := ?_) rfl (by kernel_rfl) (by kernel_rfl) (by kernel_rfl) (fun _ _ _ h => h) (Or.inl ⟨by rfl, by intro w; go_simp; try (with_reducible rfl)⟩) ?_
          refine wpAny_take (i := 10) (v := ?_) rfl (by kernel_rfl) (by kernel_rfl) (by kernel_rfl) (fun _ _ _ h => h) (Or.inl ⟨by rfl, by intro w; go_simp; try (with_reducible rfl)⟩) ?_
          refine wpAny_take (i := 11) (v := ?_) rfl (by kernel_rfl) (by kernel_rfl) (by kernel_rfl) (fun _ _ _ h => h) (Or.inl ⟨by rfl, by intro w; go_simp; try (with_reducible rfl)⟩) ?_
          refine wpAny_take (i := 12) (v := ?_) rfl (by kernel_rfl) (by kernel_rfl) (by kernel_rfl) (fun _ _ _ h => h) (Or.inl ⟨by rfl, by intro w; go_simp; try (with_reducible rfl)⟩) ?_
          refine wpAny_done (by kernel_rfl) ?_ _
          have HE := Lib.hid (HS2.out.only ho5)
          clear hs' ho5 hcall
          go_simp
          go_wp2_with fail
          go_meet
          exact ⟨rfl, rfl, rfl, HE.out⟩
      case rest =>
        obtain ⟨rfl, rfl, rfl, h3⟩ := hcut
        have H3 := Lib.hid h3
        clear h3 hcall hblk q45 HS2
        have q51 := H3.out.1.cUnder
        go_upto_region 12 with fail
        cases hu : s2.under
        case true =>
          rw [hu] at q51
          clear hu
          go_wp2
          go_roundw
          case rel => exact ⟨k + 1, _, l2, s2, by omega, by go_num, H3.out, HG2.out.1, by omega⟩
          case measure => simp [intOf]; omega
        case false =>
          rw [hu] at q51
          have HU := Lib.hid hu
          clear hu
          have h4 := H3.out.only (Only.refl Nil _).drew
          have q45 := h4.1.cL
          have q46 := h4.1.cNow
          have hwith := with_any _ l2 (evH2 s2.now) _ h4.1.evs ((evB_zero rfl rfl rfl rfl : EvB (World.drew _) (evH2 s2.now)).ok) (by omega)
          unfold evH2 Ev.v at hwith
          have HW := Lib.hid hwith
          have H4 := Lib.hid h4
          clear h4 hwith
          go_upto_region 13 with fail
          clear q51
          go_still_tail 9, (by kernel_rfl)
          change wpList _ _ _ _ _ (World.drew _)
          go_upto_region 14 with (go_at_call 15; refine HW.out.mono ?_; rintro r w5 ⟨v5, rfl, hv5, ho5⟩)
          have H4 := Lib.hid (And.intro (H4.out.only ho5) hv5)
          clear q45 q46 ho5 hv5 HW
          go_upto_region 15 with (first
            | ((with_reducible show wpList _ _ _ (Oper.mk _ (.load 26 _) _ _ _ _ :: _) _ _); refine wpList_load_row rfl 26 (.tmp 2) rfl b rfl 26 c.cells.toArray (0, 0) _ H4.out.1.2.2 Try.underlying26 rfl (by rw [hsz]; kernel_rfl) ?_)
            | (go_at_call 12; refine (judge_any c _ (l2 ++ [evH2 s2.now]) _ HC.out H4.out.2 (by rw [List.length_append, List.length_singleton]; omega)).mono ?_; rintro r w6 ⟨⟨a6, x6, y6, rfl, hs6⟩, ho6⟩))
          obtain ⟨rfl, rfl, rfl⟩ := hand_says HG2.out.1 HG2.out.2 HU.out hs6
          have H6 := Lib.hid (H4.out.1.only ho6)
          clear hs6 ho6 H4
          have q45 := H6.out.1.cL
          have hne : ((l2.length : Int) != (l2.length : Int)) = false := by simp
          go_wp2
          go_roundw
          case rel => exact ⟨k + 1, _, l2, s2, by omega, by go_num, H6.out, HG2.out.1, by omega⟩
          case measure => simp [intOf]; omega
    · obtain rfl : k = sc.length := by omega
      have g1 : ¬ (sc.length : Int) < (sc.length : Int) := by omega
      obtain ⟨A4, c4, rfl, hc4, hq4⟩ := ownN_form HS.out.1.own
      have q45 := HS.out.1.cL
      have hph := phases_any _ l wr HS.out.1.evs (by omega)
      have HPH := Lib.hid hph
      have HY := Lib.hid (clean_phases HGd.out.clean)
      clear hc4 hq4 hph
      go_wp2_with (go_at_call 16; refine HPH.out.mono ?_; rintro r w5 ⟨⟨v5, y5, rfl, hp5⟩, ho5⟩; obtain ⟨_, hy5⟩ := phs_is hp5; rw [HY.out] at hy5; subst hy5; have HO5 := Lib.hid ho5; clear hp5 ho5)
      go_ret
      exact ⟨rfl, HS.out.2.1.then HO5.out⟩

open Go.ChangeShapes Go.WideShapes Go.ChangeAt Go.Deep
section
variable {H : Type} {enc : TypeId × Value → H} {w : World} {base : Nat} {spare : Nat → Bool} {held : Bool}
theorem act_parts : ∃ f0 f1 f2 f3 : Field, Try.prog.underlying 44 = some (.struct #[f0, f1, f2, f3]) ∧ (f0.type = 3 ∧ f1.type = 3 ∧ f2.type = 3 ∧ f3.type = 39) ∧ oneCellFields Try.prog #[f0, f1, f2, f3] = true :=
  ⟨_, _, _, _, Try.underlying44, ⟨rfl, rfl, rfl, rfl⟩, by kernel_rfl⟩
theorem act_of_trod {fuel : Nat} {cs : List Value} {x : DataW H × List MemPlace} (h : DataW.trod enc Try.prog w base spare held fuel 44 cs = some x) (hl : cs.length = 4) :
    ∃ a : PAct, cs = a.cells ∧ 0 ≤ a.ip ∧ a.ip < 4294967296 := by
  obtain ⟨f0, f1, f2, f3, hs, ⟨t0, t1, t2, t3⟩, hone⟩ := act_parts
  obtain ⟨xs, n, _, hx, _, hlen, hg⟩ := DataW.trod_struct hs h
  obtain ⟨o0, k0⟩ := hone_of hone 0 f0 rfl
  obtain ⟨o1, k1⟩ := hone_of hone 1 f1 rfl
  obtain ⟨o2, k2⟩ := hone_of hone 2 f2 rfl
  obtain ⟨o3, k3⟩ := hone_of hone 3 f3 rfl
  match cs, hl, xs, hlen with
  | [c0, c1, c2, c3], _, [y0, y1, y2, y3], _ =>
    have g0 := hg 0 f0 rfl
    have g1 := hg 1 f1 rfl
    have g2 := hg 2 f2 rfl
    have g3 := hg 3 f3 rfl
    rw [o0, k0, t0] at g0
    rw [o1, k1, t1] at g1
    rw [o2, k2, t2] at g2
    rw [o3, k3, t3] at g3
    obtain ⟨a0, e0, _, _⟩ := DataW.trod_int Try.underlying3 g0
    obtain ⟨a1, e1, _, _⟩ := DataW.trod_int Try.underlying3 g1
    obtain ⟨a2, e2, _, _⟩ := DataW.trod_int Try.underlying3 g2
    obtain ⟨a3, e3, _, w3⟩ := DataW.trod_int Try.underlying39 g3
    obtain rfl : c0 = .int .i64 a0 := by simpa using e0
    obtain rfl : c1 = .int .i64 a1 := by simpa using e1
    obtain rfl : c2 = .int .i64 a2 := by simpa using e2
    obtain rfl : c3 = .int .u32 a3 := by simpa using e3
    simp only [Lit.wf, Bool.and_eq_true, decide_eq_true_eq] at w3
    have hmn : IntKind.u32.min = 0 := by decide
    have hmx : IntKind.u32.max = 4294967295 := by decide
    exact ⟨⟨a0, a1, a2, a3⟩, rfl, by show 0 ≤ a3; omega, by show a3 < 4294967296; omega⟩
theorem acts_of_trod {fuel : Nat} {v : Value} {x : DataW H × List MemPlace} (h : DataW.trod enc Try.prog w base spare held fuel 37 [v] = some x) : ∃ l, Acts w v l ∧ l.length ≤ dlen x.1 := by
  rcases open_slice Try.underlying37 h with ⟨hcs, _⟩ | ⟨a, len, cap, m, n, D, Pl, hcs, _, hl, _, hmm, rfl, hat⟩
  · obtain rfl : v = .slice none 0 0 := by simpa using hcs
    exact ⟨[], ⟨none, 0, rfl, Nat.le_refl _, fun h => absurd h (by simp)⟩, Nat.zero_le _⟩
  · obtain rfl : v = .slice (some a) len cap := by simpa using hcs
    have hlm : len ≤ m := by rw [hmm]; split <;> omega
    have hC : Try.prog.cellsOf 44 = 4 := by kernel_rfl
    have hin : Inhabited PAct := ⟨act0⟩
    obtain ⟨f, hf⟩ := choose_lt (α := PAct) (n := len) (p := fun i e => (∀ j, j < 4 → w.cell? (a.add (i * 4 + j)) = e.cells[j]?) ∧ 0 ≤ e.ip ∧ e.ip < 4294967296) (fun i hi => by
      obtain ⟨cs', hc, ht⟩ := hat i (by omega)
      rw [hC] at hc
      obtain ⟨_, hcl, hcell⟩ := World.cells?_some hc
      obtain ⟨e, rfl, hok⟩ := act_of_trod ht hcl
      refine ⟨e, fun j hj => ?_, hok⟩
      have := hcell j hj
      rw [add_add] at this
      exact this)
    have hfl : ((List.range len).map f).length = len := by simp
    have hget : ∀ j, j < len → ((List.range len).map f).getD j act0 = f j := fun j hj => getD_map_range f len j act0 hj
    refine ⟨(List.range len).map f, ⟨some a, cap, by rw [hfl], by rw [hfl]; exact hl, fun h0 => ?_⟩, by rw [hfl]; simp [dlen]⟩
    rw [hfl] at h0
    obtain ⟨b, off, spot⟩ := a
    have hspot : spot = none := by
      have := World.cell?_spot ((hf 0 h0).1 0 (by omega))
      simpa [Addr.add] using this
    subst hspot
    refine ⟨b, off, rfl, fun j hj => ?_⟩
    rw [hfl] at hj
    obtain ⟨h1, h2⟩ := hf j hj
    rw [hget j hj]
    refine ⟨fun i hi => ?_, h2⟩
    have := h1 i hi
    rw [Go.WideShapes.add_plain] at this
    rw [Nat.add_assoc]
    exact this
theorem open_acts {r : Reach} {b0 : Nat} {v : Value} {d : DataW H} {ps : List MemPlace} (hval : Value.okWide Try.prog w r b0 37 v) (h : DataW.Trod enc Try.prog w base spare held 37 v d ps) :
    ∃ l, Acts w v l ∧ l.length ≤ dlen d := by
  obtain ⟨a0, len, cap, rfl⟩ := okWide_slice Try.underlying37 hval
  obtain ⟨fuel, hf⟩ := h
  exact acts_of_trod hf
end
def lCells : List Value := List.replicate 6 (.int .u8 0) ++ (Value.int .i64 0 :: Value.int .i64 0 :: Value.string ⟨#[]⟩ :: List.replicate 32 (Value.int .u8 0)) ++ List.replicate 4 (Value.int .i64 0)
def lCfg : Value := .agg lCells.toArray
def lData (H : Type) : DataW H := .agg [.agg (List.replicate 6 (.lit (.int .u8 0))), .lit (.int .i64 0), .lit (.int .i64 0), .lit (.string []), .agg (List.replicate 32 (.lit (.int .u8 0))), .lit (.int .i64 0), .lit (.int .i64 0), .lit (.int .i64 0), .lit (.int .i64 0)]
set_option maxRecDepth 100000 in
theorem lets_lifted (os : Os) (started : os.Started) (H : Type) (enc : TypeId × Value → H) (F : Stop.Interp) :
    ReturnsInHanded {} Try.checked os 4 .any ((Rows.OpenSpec.upto Rows.judgeLetsSpec).pre6 enc Try.prog Try.f4 Rows.judgeLetsUptoRow.domain false) (((Rows.OpenSpec.upto Rows.judgeLetsSpec).at F).post enc Try.prog Try.f4 false true false false) := by
  refine returnsInHanded_of_cond (C := Try.checked) (s := Rows.OpenSpec.upto Rows.judgeLetsSpec) (k := Rows.uptoSmall) rfl Try.own started (by kernel_rfl) Try.func4
    (OpenSpec.witness (enc := enc) (C := Try.checked) (s := Rows.OpenSpec.upto Rows.judgeLetsSpec) (k := Rows.uptoSmall) rfl false ⟨#[], #[lCfg, .slice none 0 0], []⟩ 8 (by kernel_rfl) (by kernel_rfl) (by kernel_rfl)
      (x := ([lData H, .nil], [], [])) (by kernel_rfl) rfl (by kernel_rfl)) ?_
  intro W base args ds gs before hval0 hW hcnd hk _
  have hval : ∀ (j : Nat) t v, Try.f4.params[j]? = some t → args[j]? = some v → Value.okWide Try.prog W .any base t v := hval0
  have hW' := hW
  obtain ⟨p, q, hA0, hV, rfl, hfz, hnd⟩ := hW
  have hA : DataW.TrodAll enc Try.prog W 0 (fun _ => true) true Try.f4.params.toList args.toList ds p := hA0
  rw [Try.params4] at hA hval
  have hA1 := hA
  obtain ⟨v0, vs1, d0, ds1, p0, ps1, hargs, rfl, rfl, h0, hA2⟩ := trodAll_cons hA
  obtain ⟨v1, vs2, d1, ds2, p1, ps2, rfl, rfl, rfl, h1, hA3⟩ := trodAll_cons hA2
  obtain ⟨rfl, rfl, rfl⟩ := trodAll_nil hA3
  obtain rfl : args = #[v0, v1] := Array.ext' (by simpa using hargs)
  obtain ⟨rfl, rfl⟩ := trodVars_none hV
  obtain ⟨c, rfl, hc⟩ := open_cfg (hval 0 26 v0 rfl rfl) h0
  obtain ⟨l, hl, hll⟩ := open_acts (hval 1 37 v1 rfl rfl) h1
  clear hA0 hval0
  have hlt := hW'.lt
  have m1 := dlen_bound hk (d := d1) (by simp)
  refine (lets_any c v1 l W hc hl (by omega)).mono fun e W' ⟨he, hw⟩ => ?_
  subst he
  exact ⟨_, rfl, _, _, _, [], _, [], hW', trodAll_mk1 (shut_bool Try.underlying4 true), trodAll_stays Try.laidOut (hw.below (Nat.le_refl _) fun _ h => h.elim) (by kernel_rfl) hA1 (fun x hx => hlt x (by simpa using hx)), rfl, kept_of_only hw _, fun h => by cases h⟩
theorem lets_holds : Rows.JudgeLetsUptoSaid :=
  OpenClaim.holds_of_cond 4 Try.f4 rfl rfl rfl rfl rfl rfl rfl ⟨rfl, rfl, rfl, rfl, rfl⟩ rfl rfl rfl rfl rfl (by kernel_rfl) Try.func4 (by kernel_rfl)
    (of_decide_eq_true (by kernel_rfl)) (by unfold Func.isWrapper; rw [if_neg (by decide +kernel)]; exact ⟨rfl, rfl⟩)
    (fun os started H enc _ F => lets_lifted os started H enc F)
end Go.Proofs.Ythoaeolohnalnaa
