/-
  A step of the simple system (does).
-/
import Derived.Test.YthoaeolohnalnaaPg
import Derived.Test.YthoaeolohnalnaaPe
import Derived.Outline
import Derived.Deep.CutBlock
namespace Go.Proofs.Ythoaeolohnalnaa
open Go.RowKit

def PAct.v (a : PAct) : Value := .agg #[.int .i64 a.kind, .int .i64 a.ticks, .int .i64 a.n, .int .u32 a.ip]
def doesQ (c : Cfg) (l : List Ev) (s : Py) (a : PAct) (gd : Nat) : List Ev × Py := actQ c (lapseQ c l (tickQ s a)).1 (lapseQ c l (tickQ s a)).2 a gd
def DoneQ (R : World → Prop) (e : Exit) (a : Act) (wx : World) : Prop := e = .normal ∧ a.defers = [] ∧ R wx
theorem DoneQ.mk {R : World → Prop} {t : Array Value} {wx : World} (h : R wx) : DoneQ R .normal ⟨t, []⟩ wx := ⟨rfl, rfl, h⟩
set_option maxHeartbeats 6400000 in
set_option maxRecDepth 100000 in
theorem does_any (g base : Nat) (c : Cfg) (v : Value) (l : List Ev) (s : Py) (a : PAct) (w : World) (h : PlAt w g base c v l s) (hn : l.length ≤ 999999900) (hf0 : 0 ≤ s.fails) (hf1 : s.fails ≤ 900000000) (ht0 : 0 ≤ s.now) (ht1 : s.now ≤ 1125899906842624)
    (hi0 : 0 ≤ s.ip) (hi1 : s.ip < 4294967296) (ha0 : 0 ≤ a.ip) (ha1 : a.ip < 4294967296) :
    Calls Try.prog 14 #[.pointer (some ⟨g, 0, none⟩), a.v] w fun r w' => ∃ gd, PyPost w g base c (doesQ c l s a gd) r w' := by
  unfold PAct.v
  go_enter Try.func14, Try.ntmps14
  obtain ⟨kind, ticks, n, aip⟩ := a
  simp only at ha0 ha1
  have HP := Lib.hid h
  have hlow := h.low
  clear h
  go_upto_region 1 with fail
  obtain ⟨b, hb⟩ : ∃ b, w.heap.size = b := ⟨_, rfl⟩
  refine wp_gen (fun W => PlAt W g base c v l s ∧ Fr base w W ∧ Blk W b 44 [.int .i64 kind, .int .i64 ticks, .int .i64 n, .int .u32 aip]) ⟨HP.out.nil ((Only.refl _ _).alloc _), (Fr.refl base w).nil ((Only.refl _ _).alloc _), hb ▸ Blk.new w _ _⟩ ?_
  rw [hb]
  clear hb HP
  intro w1 h1
  obtain ⟨tb, htb⟩ : ∃ tb, (decide (0 < ticks) && decide (ticks < 1125899906842624 - s.now)) = tb := ⟨_, rfl⟩
  have HTB := Lib.hid htb
  have HD := Lib.hid (show ∀ gd, doesQ c l s ⟨kind, ticks, n, aip⟩ gd = actQ c (lapseQ c l (tickQ s ⟨kind, ticks, n, aip⟩)).1 (lapseQ c l (tickQ s ⟨kind, ticks, n, aip⟩)).2 ⟨kind, ticks, n, aip⟩ gd from fun _ => rfl)
  have HTK := Lib.hid (show tickQ s ⟨kind, ticks, n, aip⟩ = if tb = true then { s with now := s.now + ticks } else s by
    unfold tickQ
    rw [← htb]
    by_cases hc : 0 < ticks ∧ ticks < 1125899906842624 - s.now
    · rw [if_pos hc, if_pos (by simp [hc])]
    · rw [if_neg hc, if_neg (by simpa using hc)])
  have a1 : w1.cell? ⟨b, 1, none⟩ = some (.int .i64 ticks) := h1.2.2.cell 1
  have cn := h1.1.cNow
  have H1 := Lib.hid h1
  have HB := Lib.hid (And.intro hf0 (And.intro hf1 (And.intro ht0 (And.intro ht1 (And.intro hi0 hi1)))))
  clear h1 htb
  generalize hsn : s.now = now at *
  have HSN := Lib.hid hsn
  clear hsn
  go_cut [20] (fun t wx => t = .bool tb ∧ PlAt wx g base c v l s ∧ Fr base w wx ∧ Blk wx b 44 [.int .i64 kind, .int .i64 ticks, .int .i64 n, .int .u32 aip])
  case first => as_aux_lemma =>
    -- [[
    by_cases t0 : 0 < ticks
    · by_cases t1 : ticks < 1125899906842624 - now
      · have HX := Lib.hid (show tb = true by rw [← HTB.out]; simp [t0, t1])
        go_quiet (fail)
        go_wp2_with fail
        go_meet
        exact ⟨by rw [HX.out], H1.out.1.nil ((Only.refl Nil w1).drewN _), H1.out.2.1.drewN _, H1.out.2.2⟩
      · have HX := Lib.hid (show tb = false by rw [← HTB.out]; simp [t1])
        go_quiet (fail)
        go_wp2_with fail
        go_meet
        exact ⟨by rw [HX.out], H1.out.1.nil ((Only.refl Nil w1).drewN _), H1.out.2.1.drewN _, H1.out.2.2⟩
    · have HX := Lib.hid (show tb = false by rw [← HTB.out]; simp [t0])
      have hd0 : decide (0 < ticks) = false := by simp [t0]
      go_quiet (fail)
      go_wp2_with fail
      go_meet
      exact ⟨by rw [HX.out], H1.out.1.nil ((Only.refl Nil w1).drewN _), H1.out.2.1.drewN _, H1.out.2.2⟩
    -- ]]
  case rest =>
    obtain ⟨rfl, h2⟩ := hcut
    clear H1 a1 cn
    obtain ⟨s1, hs1⟩ : ∃ s1, tickQ s ⟨kind, ticks, n, aip⟩ = s1 := ⟨_, rfl⟩
    rw [hs1] at HTK HD
    clear hs1
    have hb1 : (0 ≤ s1.fails ∧ s1.fails ≤ 900000000) ∧ (0 ≤ s1.now ∧ s1.now ≤ 1125899906842624) ∧ 0 ≤ s1.ip ∧ s1.ip < 4294967296 := by
      have h5 := HB.out
      have h6 := HTB.out
      rw [HTK.out]
      cases tb
      · rw [if_neg (by simp), HSN.out]
        omega
      · rw [if_pos rfl]
        simp only [Bool.and_eq_true, decide_eq_true_eq] at h6
        refine ⟨⟨h5.1, h5.2.1⟩, ?_, h5.2.2.2.2⟩
        show 0 ≤ now + ticks ∧ now + ticks ≤ 1125899906842624
        omega
    have H2 := Lib.hid h2
    clear h2
    go_upto_if 20 with (fail)
    go_cut [] (fun wx => PlAt wx g base c v l s1 ∧ Fr base w wx ∧ Blk wx b 44 [.int .i64 kind, .int .i64 ticks, .int .i64 n, .int .u32 aip])
    case first => as_aux_lemma =>
      -- [[
      clear hb1
      cases tb
      · have HX := Lib.hid (show s1 = s by rw [HTK.out]; simp)
        go_wp2_with fail
        go_meet
        exact ⟨by rw [HX.out]; exact H2.out.1, H2.out.2⟩
      · have HX := Lib.hid (show s1 = { s with now := now + ticks } by rw [HTK.out]; simp)
        have hx := HTB.out
        simp only [Bool.and_eq_true, decide_eq_true_eq] at hx
        obtain ⟨x0, x1⟩ := hx
        have cn : wc.drew.cell? ⟨g, 46, none⟩ = some (.int .i64 now) := by rw [← HSN.out]; exact H2.out.1.cNow
        have zn : wc.drew.frozen? ⟨g, 46, none⟩ = false := H2.out.1.free 46
        have a1 : wc.drew.cell? ⟨b, 1, none⟩ = some (.int .i64 ticks) := H2.out.2.2.cell 1
        have hp := (H2.out.1.nil (Only.refl Nil wc).drew).pNow (now + ticks)
        have HF := Lib.hid (And.intro hp (And.intro ((H2.out.1.nil (Only.refl Nil wc).drew).frSet (H2.out.2.1.nil (Only.refl Nil wc).drew) 46 (.int .i64 (now + ticks))) ((H2.out.2.2.drew).far (p := ⟨g, 46, none⟩) (fun e => absurd (blk_type (show Blk wc g _ _ by rw [← show b = g from e]; exact H2.out.2.2) H2.out.1.blk) (by decide)) (.int .i64 (now + ticks)))))
        clear hp
        go_upto_region 2 with fail
        go_still_tail 10, (by kernel_rfl)
        change wpList _ _ _ _ _ wc.drew
        generalize wc.drew = wd at *
        go_wp2_with fail
        go_meet
        exact ⟨by rw [HX.out]; exact HF.out.1, HF.out.2⟩
      -- ]]
    case rest =>
      rename_i wc0 _ _ _
      clear H2 HTK HTB HSN HB
      obtain ⟨⟨f0, f1⟩, ⟨n0, n1⟩, i0, i1⟩ := hb1
      have H3 := Lib.hid hcut
      clear hcut hf0 hf1 hi0 hi1 ht0 ht1
      obtain ⟨lb, hlb⟩ : ∃ lb, lapsQ s1 = lb := ⟨_, rfl⟩
      have HLB := Lib.hid hlb
      clear hlb
      rename_i wc
      have ch := H3.out.1.cHeld
      have ct := H3.out.1.cTill
      have cn := H3.out.1.cNow
      obtain ⟨ld, hld⟩ : ∃ ld, (s1.held && (!decide (s1.till = -1) && decide (s1.till ≤ s1.now))) = ld := ⟨_, rfl⟩
      have HLD := Lib.hid (And.intro hld (show lapsQ s1 = ld from hld))
      obtain rfl : lb = ld := by rw [← HLB.out, HLD.out.2]
      clear hld
      go_upto_region 3 with fail
      go_cut [52] (fun t wx => t = .bool lb ∧ PlAt wx g base c v l s1 ∧ Fr base w wx ∧ Blk wx b 44 [.int .i64 kind, .int .i64 ticks, .int .i64 n, .int .u32 aip])
      case first => as_aux_lemma =>
        -- [[
        have hl1 := HLD.out.1
        generalize s1.held = held at *
        generalize s1.till = till at *
        generalize s1.now = now1 at *
        cases held
        · obtain rfl : lb = false := by rw [← hl1]; rfl
          clear hl1 HLB HLD
          go_quiet (fail)
          go_wp2_with fail
          go_meet
          exact ⟨rfl, H3.out.1.nil ((Only.refl Nil _).drewN _), H3.out.2.1.drewN _, H3.out.2.2⟩
        · by_cases t1 : till = -1
          · subst t1
            obtain rfl : lb = false := by rw [← hl1]; rfl
            clear hl1 HLB HLD
            go_quiet (fail)
            go_wp2_with fail
            go_meet
            exact ⟨rfl, H3.out.1.nil ((Only.refl Nil _).drewN _), H3.out.2.1.drewN _, H3.out.2.2⟩
          · have t1b : (till != -1) = true := by simp [t1]
            obtain ⟨lt, hlt⟩ : ∃ lt, decide (till ≤ now1) = lt := ⟨_, rfl⟩
            obtain rfl : lb = lt := by rw [← hl1, ← hlt]; simp [t1]
            clear hl1 HLB HLD t1
            go_quiet (fail)
            go_wp2_with fail
            go_meet
            exact ⟨rfl, H3.out.1.nil ((Only.refl Nil _).drewN _), H3.out.2.1.drewN _, H3.out.2.2⟩
        -- ]]
      case rest =>
        obtain ⟨rfl, h4⟩ := hcut
        have H4 := Lib.hid h4
        clear h4 H3 HLD ch ct cn
        obtain ⟨p, hp⟩ : ∃ p, lapseQ c l s1 = p := ⟨_, rfl⟩
        rw [hp] at HD
        have HLp := Lib.hid (show p = if lb = true then dropQ c l s1 else (l, s1) by rw [← hp]; unfold lapseQ; rw [HLB.out])
        have hpb : (p.1.length ≤ l.length + 3 ∧ 0 ≤ p.2.fails ∧ p.2.fails ≤ 900000001) ∧ (0 ≤ p.2.now ∧ p.2.now ≤ 1125899906842624) ∧ 0 ≤ p.2.ip ∧ p.2.ip < 4294967296 := by
          rw [HLp.out]
          unfold dropQ failQ
          repeat' split
          all_goals
            simp only [List.length_append, List.length_singleton]
            omega
        clear hp HLB
        go_upto_if 52 with (fail)
        go_cut [] (fun wx => (∃ v', PlAt wx g base c v' p.1 p.2) ∧ Fr base w wx ∧ Blk wx b 44 [.int .i64 kind, .int .i64 ticks, .int .i64 n, .int .u32 aip])
        case first => as_aux_lemma =>
          -- [[
          clear hpb
          cases lb
          · have HX := Lib.hid (show p = (l, s1) by rw [HLp.out]; simp)
            go_wp2_with fail
            go_meet
            exact ⟨⟨_, by rw [HX.out]; exact H4.out.1⟩, H4.out.2⟩
          · have HX := Lib.hid (show p = dropQ c l s1 by rw [HLp.out]; simp)
            have hdr := pdrop_any g base c v l s1 _ H4.out.1 (by omega) f0 (by omega) n0 n1 i0 i1
            go_wp2_with (go_at_call 29; refine hdr.mono ?_; rintro r w4 ⟨rfl, hp4, ho4⟩)
            go_meet
            exact ⟨by rw [HX.out]; exact hp4, H4.out.2.1.then ho4, ho4.2 _ _ _ H4.out.2.2 (by decide) (by decide)⟩
          -- ]]
        case rest =>
          obtain ⟨⟨v2, h5⟩, h6⟩ := hcut
          obtain ⟨l2, s2⟩ := p
          simp only at HD hpb h5
          obtain ⟨⟨m0, m1, m2⟩, ⟨m3, m4⟩, m5, m6⟩ := hpb
          have H5 := Lib.hid (And.intro h5 h6)
          clear h5 h6 H4 HLp f0 f1 n0 n1 i0 i1
          have a3 := H5.out.2.2.cell 3
          simp only [List.getElem?_cons_succ, List.getElem?_cons_zero] at a3
          obtain ⟨ho, hho⟩ : ∃ ho, hostP aip = ho := ⟨_, rfl⟩
          have HHO := Lib.hid hho
          have hish := fun w => ishost_any aip w ha0 ha1
          rw [hho] at hish
          have HIS := Lib.hid hish
          clear hho hish
          go_upto_region 6 with (go_at_call 30; refine (HIS.out _).mono ?_; rintro r w4 ⟨rfl, rfl⟩)
          clear a3 HIS
          obtain ⟨ma, hma⟩ : ∃ ma, mayQ s2 = ma := ⟨_, rfl⟩
          have HMA := Lib.hid hma
          clear hma
          have q50 := H5.out.1.cHeld
          have q51 := H5.out.1.cUnder
          have q52 := H5.out.1.cOver
          have q53 := H5.out.1.cReady
          have q46 := H5.out.1.cNow
          go_cut [5] (fun t wx => t = .bool ma ∧ PlAt wx g base c v2 l2 s2 ∧ Fr base w wx ∧ Blk wx b 44 [.int .i64 kind, .int .i64 ticks, .int .i64 n, .int .u32 aip])
          case first => as_aux_lemma =>
            -- [[
            have hm := HMA.out
            unfold mayQ at hm
            generalize s2.held = x1 at *
            generalize s2.under = x2 at *
            generalize s2.over = x3 at *
            generalize s2.ready = x4 at *
            generalize s2.now = x5 at *
            cases x1
            · obtain rfl : ma = false := by rw [← hm]; rfl
              clear hm HMA
              go_quiet (fail)
              go_wp2_with fail
              go_meet
              exact ⟨rfl, H5.out.1.nil ((Only.refl Nil _).drewN _), H5.out.2.1.drewN _, H5.out.2.2⟩
            cases x2
            · cases x3
              · obtain rfl : decide (x4 ≤ x5) = ma := by rw [← hm]; simp
                clear hm HMA
                go_quiet (fail)
                go_wp2_with fail
                go_meet
                exact ⟨rfl, H5.out.1.nil ((Only.refl Nil _).drewN _), H5.out.2.1.drewN _, H5.out.2.2⟩
              · obtain rfl : ma = false := by rw [← hm]; rfl
                clear hm HMA
                go_quiet (fail)
                go_wp2_with fail
                go_meet
                exact ⟨rfl, H5.out.1.nil ((Only.refl Nil _).drewN _), H5.out.2.1.drewN _, H5.out.2.2⟩
            · obtain rfl : ma = false := by rw [← hm]; rfl
              clear hm HMA
              go_quiet (fail)
              go_wp2_with fail
              go_meet
              exact ⟨rfl, H5.out.1.nil ((Only.refl Nil _).drewN _), H5.out.2.1.drewN _, H5.out.2.2⟩
            -- ]]
          case rest =>
            obtain ⟨rfl, h7⟩ := hcut
            have H7 := Lib.hid h7
            clear h7 H5 q50 q51 q52 q53 q46
            have a0 := H7.out.2.2.cell 0
            have a2 := H7.out.2.2.cell 2
            have a3 := H7.out.2.2.cell 3
            simp only [List.getElem?_cons_succ, List.getElem?_cons_zero] at a0 a2 a3
            have q50 := H7.out.1.cHeld
            have q51 := H7.out.1.cUnder
            have q48 := H7.out.1.cIp
            go_upto_block 0 with (fail)
            clear a0
            obtain ⟨R, hR⟩ : ∃ R : World → Prop, R = fun wx => ∃ gd v', PlAt wx g base c v' (actQ c l2 s2 ⟨kind, ticks, n, aip⟩ gd).1 (actQ c l2 s2 ⟨kind, ticks, n, aip⟩ gd).2 ∧ Fr base w wx := ⟨_, rfl⟩
            refine Code.wp_mono (Q := DoneQ R) (fun e a wx h => ?_) ?_
            · obtain ⟨rfl, hd, hr⟩ := h
              rw [hR] at hr
              obtain ⟨gd, v', hp, hf⟩ := hr
              exact bodyPost_end (results_none rfl _ _ _) hd ⟨gd, rfl, ⟨v', by rw [HD.out]; exact hp⟩, hf⟩
            have HRR := Lib.hid (show ∀ gd v' wx, PlAt wx g base c v' (actQ c l2 s2 ⟨kind, ticks, n, aip⟩ gd).1 (actQ c l2 s2 ⟨kind, ticks, n, aip⟩ gd).2 → Fr base w wx → R wx from fun gd v' wx h1 h2 => by rw [hR]; exact ⟨gd, v', h1, h2⟩)
            clear hR HD
            have hl2 : l2.length ≤ 999999910 := by omega
            by_cases k3 : kind = 3
            · as_aux_lemma =>
              -- [[
              subst k3
              cases hh : s2.held
              · have HX := Lib.hid (show actQ c l2 s2 ⟨3, ticks, n, aip⟩ 0 = (l2, s2) by simp [actQ, hh])
                rw [hh] at q50
                clear hh
                go_wp2_with fail
                (try simp only [Exit.inBlock, Exit.then])
                exact DoneQ.mk (HRR.out 0 _ _ (by rw [HX.out]; exact H7.out.1) H7.out.2.1)
              · have HX := Lib.hid (show actQ c l2 s2 ⟨3, ticks, n, aip⟩ 0 = dropQ c l2 s2 by simp [actQ, hh])
                rw [hh] at q50
                have hdr := pdrop_any g base c v2 l2 s2 _ H7.out.1 (by omega) m1 (by omega) m3 m4 m5 m6
                clear hh
                go_wp2_with (go_at_call 29; refine hdr.mono ?_; rintro r w4 ⟨rfl, ⟨v4, hp4⟩, ho4⟩)
                (try simp only [Exit.inBlock, Exit.then])
                exact DoneQ.mk (HRR.out 0 _ _ (by rw [HX.out]; exact hp4) (H7.out.2.1.then ho4))
              -- ]]
            by_cases k4 : kind = 4
            · as_aux_lemma =>
              -- [[
              subst k4
              cases ma
              · have HX := Lib.hid (show actQ c l2 s2 ⟨4, ticks, n, aip⟩ 0 = (l2, s2) by simp [actQ, HMA.out])
                go_wp2_with fail
                (try simp only [Exit.inBlock, Exit.then])
                exact DoneQ.mk (HRR.out 0 _ _ (by rw [HX.out]; exact H7.out.1) H7.out.2.1)
              cases ho
              · have HX := Lib.hid (show actQ c l2 s2 ⟨4, ticks, n, aip⟩ 0 = (l2, s2) by simp [actQ, HHO.out])
                go_wp2_with fail
                (try simp only [Exit.inBlock, Exit.then])
                exact DoneQ.mk (HRR.out 0 _ _ (by rw [HX.out]; exact H7.out.1) H7.out.2.1)
              have HX := Lib.hid (show actQ c l2 s2 ⟨4, ticks, n, aip⟩ 0 = (l2 ++ [⟨4, s2.now, aip, 0, 0, 0, none, 0, []⟩], { s2 with under := true }) by simp [actQ, HMA.out, HHO.out])
              have hadd := fun (w : World) (h : PlAt w g base c v2 l2 s2) => add_any g base c v2 l2 s2 ⟨4, 0, aip, 0, 0, 0, none, 0, []⟩ w h (evB_bare ha0 ha1 rfl rfl rfl) (by omega)
              unfold Ev.v at hadd
              have HAdd := Lib.hid hadd
              clear hadd
              go_upto_region 29 with (go_at_call 32; refine (HAdd.out _ H7.out.1).mono ?_; rintro r w4 ⟨rfl, ⟨v4, hp4⟩, ho4⟩)
              have c1 := hp4.cUnder
              have z1 := hp4.free 51
              have HF := Lib.hid (And.intro (hp4.pUnder true) (hp4.frSet (H7.out.2.1.then ho4) 51 (.bool true)))
              clear hp4 ho4
              go_wp2_with fail
              (try simp only [Exit.inBlock, Exit.then])
              exact DoneQ.mk (HRR.out 0 _ _ (by rw [HX.out]; exact HF.out.1) HF.out.2)
              -- ]]
            by_cases k5 : kind = 5
            · as_aux_lemma =>
              -- [[
              subst k5
              have HM7 := Lib.hid (show ∀ (h : n = 7), actQ c l2 s2 ⟨5, ticks, n, aip⟩ 0 = if ma = true then failQ c l2 s2 7 else (l2, s2) from fun h => by
                subst h
                rw [← HMA.out]
                simp [actQ])
              have hfl := fun why (w : World) (h : PlAt w g base c v2 l2 s2) => pfail_any g base c v2 l2 s2 why w h (by omega) m1 (by omega) m3 m4
              have HFL := Lib.hid hfl
              clear hfl
              by_cases n7 : n = 7
              · subst n7
                have HX := Lib.hid (HM7.out rfl)
                clear HM7
                cases hu : s2.under
                all_goals
                  rw [hu] at q51
                  clear hu
                  cases ma
                  · go_wp2_with fail
                    (try simp only [Exit.inBlock, Exit.then])
                    exact DoneQ.mk (HRR.out 0 _ _ (by rw [HX.out]; exact H7.out.1) H7.out.2.1)
                  · go_wp2_with (go_at_call 33; refine (HFL.out 7 _ H7.out.1).mono ?_; rintro r w4 ⟨rfl, ⟨v4, hp4⟩, ho4⟩)
                    (try simp only [Exit.inBlock, Exit.then])
                    exact DoneQ.mk (HRR.out 0 _ _ (by rw [HX.out]; exact hp4) (H7.out.2.1.then ho4))
              · have n7b : (n == 7) = false := by simp [n7]
                clear HM7
                cases hu : s2.under
                · have HX := Lib.hid (show actQ c l2 s2 ⟨5, ticks, n, aip⟩ 0 = (l2, s2) by simp [actQ, hu, n7])
                  rw [hu] at q51
                  clear hu n7
                  cases ma
                  all_goals
                    go_wp2_with fail
                    (try simp only [Exit.inBlock, Exit.then])
                    exact DoneQ.mk (HRR.out 0 _ _ (by rw [HX.out]; exact H7.out.1) H7.out.2.1)
                · rw [hu] at q51
                  by_cases n1 : 1 ≤ n
                  · by_cases n5 : n ≤ 5
                    · have HX := Lib.hid (show actQ c l2 s2 ⟨5, ticks, n, aip⟩ 0 = failQ c l2 s2 n by simp [actQ, hu, n1, n5])
                      clear hu n7
                      go_upto_region 33 with (go_at_call 33; refine (HFL.out n _ H7.out.1).mono ?_; rintro r w4 ⟨rfl, ⟨v4, hp4⟩, ho4⟩)
                      have a2' := (ho4.2 _ _ _ H7.out.2.2 (by decide) (by decide)).cell 2
                      simp only [List.getElem?_cons_succ, List.getElem?_cons_zero] at a2'
                      have HF := Lib.hid (And.intro hp4 (H7.out.2.1.then ho4))
                      clear hp4 ho4 a2
                      cases ma
                      all_goals
                        go_wp2_with fail
                        (try simp only [Exit.inBlock, Exit.then])
                        exact DoneQ.mk (HRR.out 0 _ _ (by rw [HX.out]; exact HF.out.1) HF.out.2)
                    · have HX := Lib.hid (show actQ c l2 s2 ⟨5, ticks, n, aip⟩ 0 = (l2, s2) by simp [actQ, n5, n7])
                      clear hu n7
                      cases ma
                      all_goals
                        go_wp2_with fail
                        (try simp only [Exit.inBlock, Exit.then])
                        exact DoneQ.mk (HRR.out 0 _ _ (by rw [HX.out]; exact H7.out.1) H7.out.2.1)
                  · have HX := Lib.hid (show actQ c l2 s2 ⟨5, ticks, n, aip⟩ 0 = (l2, s2) by simp [actQ, n1, n7])
                    clear hu n7
                    cases ma
                    all_goals
                      go_wp2_with fail
                      (try simp only [Exit.inBlock, Exit.then])
                      exact DoneQ.mk (HRR.out 0 _ _ (by rw [HX.out]; exact H7.out.1) H7.out.2.1)
              -- ]]
            by_cases k6 : kind = 6
            · as_aux_lemma =>
              -- [[
              subst k6
              have q41 := H7.out.1.cMost
              cases hu : s2.under
              · have HX := Lib.hid (show actQ c l2 s2 ⟨6, ticks, n, aip⟩ 0 = (l2, s2) by simp [actQ, hu])
                rw [hu] at q51
                clear hu
                go_upto_region 36 with fail
                go_quiet (fail)
                go_wp2_with fail
                (try simp only [Exit.inBlock, Exit.then])
                exact DoneQ.mk (HRR.out 0 _ _ (by rw [HX.out]; exact H7.out.1.nil ((Only.refl Nil _).drewN _)) (H7.out.2.1.drewN _))
              rw [hu] at q51
              by_cases n0 : 0 ≤ n
              · by_cases n1 : n ≤ c.most
                · have HX := Lib.hid (show actQ c l2 s2 ⟨6, ticks, n, aip⟩ 0 = (l2 ++ [⟨6, s2.now, 0, 0, 0, n, none, 0, []⟩], { s2 with under := false, over := true }) by simp [actQ, hu, n0, n1])
                  have hadd := fun (w : World) (h : PlAt w g base c v2 l2 s2) => add_any g base c v2 l2 s2 ⟨6, 0, 0, 0, 0, n, none, 0, []⟩ w h (evB_zero rfl rfl rfl rfl) (by omega)
                  unfold Ev.v at hadd
                  have HAdd := Lib.hid hadd
                  clear hadd hu
                  go_upto_region 36 with fail
                  go_quiet (fail)
                  go_upto_region 38 with (go_at_call 32; refine (HAdd.out _ (H7.out.1.nil ((Only.refl Nil _).drewN _))).mono ?_; rintro r w4 ⟨rfl, ⟨v4, hp4⟩, ho4⟩)
                  have c1 := hp4.cUnder
                  have z1 := hp4.free 51
                  have c2 := (hp4.pUnder false).cOver
                  have z2 := hp4.free 52
                  have HF := Lib.hid (And.intro ((hp4.pUnder false).pOver true) ((hp4.pUnder false).frSet (hp4.frSet ((H7.out.2.1.drewN _).then ho4) 51 (.bool false)) 52 (.bool true)))
                  simp only at c2
                  clear hp4 ho4 a2 q41 q51 q50 q48
                  go_wp2_with fail
                  (try simp only [Exit.inBlock, Exit.then])
                  exact DoneQ.mk (HRR.out 0 _ _ (by rw [HX.out]; exact HF.out.1) HF.out.2)
                · have HX := Lib.hid (show actQ c l2 s2 ⟨6, ticks, n, aip⟩ 0 = (l2, s2) by simp [actQ, n1])
                  clear hu
                  go_upto_region 36 with fail
                  go_quiet (fail)
                  go_wp2_with fail
                  (try simp only [Exit.inBlock, Exit.then])
                  exact DoneQ.mk (HRR.out 0 _ _ (by rw [HX.out]; exact H7.out.1.nil ((Only.refl Nil _).drewN _)) (H7.out.2.1.drewN _))
              · have HX := Lib.hid (show actQ c l2 s2 ⟨6, ticks, n, aip⟩ 0 = (l2, s2) by simp [actQ, n0])
                have n0b : decide (0 ≤ n) = false := by simp [n0]
                clear hu
                go_upto_region 36 with fail
                go_quiet (fail)
                go_wp2_with fail
                (try simp only [Exit.inBlock, Exit.then])
                exact DoneQ.mk (HRR.out 0 _ _ (by rw [HX.out]; exact H7.out.1.nil ((Only.refl Nil _).drewN _)) (H7.out.2.1.drewN _))
              -- ]]
            by_cases k1 : kind = 1
            · as_aux_lemma =>
              -- [[
              subst k1
              have HX := Lib.hid (show ∀ gd, actQ c l2 s2 ⟨1, ticks, n, aip⟩ gd = (l2 ++ [sentE c s2 n gd], s2) from fun gd => by simp [actQ])
              obtain ⟨x, hx⟩ : ∃ x, (if s2.held = true ∧ n % 2 = 0 then s2.ip else 0) = x := ⟨_, rfl⟩
              have hxb : 0 ≤ x ∧ x < 4294967296 := by rw [← hx]; split <;> omega
              have hlen := (frame_facts (H7.out.1).ok.mac hxb.1 hxb.2).1
              have HSE := Lib.hid (show ∀ gd, sentE c s2 n gd = ⟨1, s2.now, 0, 0, 0, 0, some ⟨gd, 0, none⟩, 60, frameQ c.mac x⟩ from fun gd => by unfold sentE; rw [hx])
              have HXX := Lib.hid hx
              have hadd := fun (gd : Nat) (w : World) (h : PlAt w g base c v2 l2 s2) (hb : Blk w gd 5 (BC (frameQ c.mac x))) => add_any g base c v2 l2 s2 ⟨1, 0, 0, 0, 0, 0, some ⟨gd, 0, none⟩, 60, frameQ c.mac x⟩ w h ⟨⟨Int.le_refl 0, by show (0 : Int) < 4294967296; decide⟩, .inr ⟨gd, rfl, rfl, hlen, hb⟩⟩ (by omega)
              unfold Ev.v at hadd
              simp only [hlen] at hadd
              have HAdd := Lib.hid hadd
              have HFr := Lib.hid (fun w h => frame_any g base c v2 l2 s2 x w h hxb.1 hxb.2)
              clear hadd hx hlen hxb
              cases hh : s2.held
              · obtain rfl : x = 0 := by rw [← HXX.out, if_neg (by rw [hh]; simp)]
                rw [hh] at q50
                clear hh HXX
                go_upto_region 13 with (go_at_call 31; refine (HFr.out _ H7.out.1).mono ?_; rintro r w4 ⟨gd, rfl, hb4, ho4⟩)
                have HF := Lib.hid (And.intro (H7.out.1.nil ho4) (And.intro hb4 (H7.out.2.1.nil ho4)))
                clear hb4 ho4 q48 q50 q51 a2
                go_wp2_with (go_at_call 32; refine (HAdd.out gd _ HF.out.1 HF.out.2.1).mono ?_; rintro r w5 ⟨rfl, ⟨v5, hp5⟩, ho5⟩)
                (try simp only [Exit.inBlock, Exit.then])
                exact DoneQ.mk (HRR.out gd _ _ (by rw [HX.out, HSE.out]; exact hp5) (HF.out.2.2.then ho5))
              · rw [hh] at q50
                by_cases he : n % 2 = 0
                · obtain rfl : x = s2.ip := by rw [← HXX.out, if_pos ⟨hh, he⟩]
                  have heb : (n.tmod 2 == 0) = true := by
                    rw [beq_iff_eq]
                    exact Int.tmod_eq_zero_of_dvd (Int.dvd_of_emod_eq_zero he)
                  clear hh HXX he
                  go_upto_region 13 with (go_at_call 31; refine (HFr.out _ H7.out.1).mono ?_; rintro r w4 ⟨gd, rfl, hb4, ho4⟩)
                  have HF := Lib.hid (And.intro (H7.out.1.nil ho4) (And.intro hb4 (H7.out.2.1.nil ho4)))
                  clear hb4 ho4 q48 q50 q51 a2
                  go_wp2_with (go_at_call 32; refine (HAdd.out gd _ HF.out.1 HF.out.2.1).mono ?_; rintro r w5 ⟨rfl, ⟨v5, hp5⟩, ho5⟩)
                  (try simp only [Exit.inBlock, Exit.then])
                  exact DoneQ.mk (HRR.out gd _ _ (by rw [HX.out, HSE.out]; exact hp5) (HF.out.2.2.then ho5))
                · obtain rfl : x = 0 := by rw [← HXX.out, if_neg (by intro h; exact he h.2)]
                  have heb : (n.tmod 2 == 0) = false := by
                    rw [beq_eq_false_iff_ne]
                    exact fun h => he (Int.emod_eq_zero_of_dvd (Int.dvd_of_tmod_eq_zero h))
                  clear hh HXX he
                  go_upto_region 13 with (go_at_call 31; refine (HFr.out _ H7.out.1).mono ?_; rintro r w4 ⟨gd, rfl, hb4, ho4⟩)
                  have HF := Lib.hid (And.intro (H7.out.1.nil ho4) (And.intro hb4 (H7.out.2.1.nil ho4)))
                  clear hb4 ho4 q48 q50 q51 a2
                  go_wp2_with (go_at_call 32; refine (HAdd.out gd _ HF.out.1 HF.out.2.1).mono ?_; rintro r w5 ⟨rfl, ⟨v5, hp5⟩, ho5⟩)
                  (try simp only [Exit.inBlock, Exit.then])
                  exact DoneQ.mk (HRR.out gd _ _ (by rw [HX.out, HSE.out]; exact hp5) (HF.out.2.2.then ho5))
              -- ]]
            by_cases k2 : kind = 2
            · as_aux_lemma =>
              subst k2
              by_cases hor : s2.held = true ∨ ho = true
              · obtain ⟨ipx, hipx⟩ : ∃ x, (if s2.held = true then s2.ip else aip) = x := ⟨_, rfl⟩
                obtain ⟨tx, htx⟩ : ∃ x, tillQ s2 n = x := ⟨_, rfl⟩
                have hib : 0 ≤ ipx ∧ ipx < 4294967296 := by rw [← hipx]; split <;> omega
                have HX := Lib.hid (show actQ c l2 s2 ⟨2, ticks, n, aip⟩ 0 = (l2 ++ [⟨2, s2.now, ipx, tx, 0, 0, none, 0, []⟩], { s2 with ip := ipx, held := true, till := tx }) by
                  have hor' : s2.held = true ∨ hostP aip = true := by rw [HHO.out]; exact hor
                  unfold actQ
                  rw [if_neg (show ¬ (2 : Int) = 1 by decide), if_pos rfl, if_pos hor', hipx, htx])
                have HIP := Lib.hid hipx
                have HTX := Lib.hid htx
                have HOR := Lib.hid hor
                clear hipx htx hor
                go_upto_region 15 with fail
                go_cut [120] (fun t wx => t = .bool true ∧ wc = wx)
                case first => as_aux_lemma =>
                  -- [[
                  have h1 := HOR.out
                  generalize s2.held = hd at *
                  cases hd
                  · cases ho
                    · exact absurd h1 (by simp)
                    · clear h1
                      go_wp2_with fail
                      go_meet
                      exact ⟨rfl, rfl⟩
                  · clear h1
                    go_wp2_with fail
                    go_meet
                    exact ⟨rfl, rfl⟩
                  -- ]]
                case rest =>
                  obtain ⟨rfl, rfl⟩ := hcut
                  go_upto_region 16 with fail
                  go_upto_if 125 with (fail)
                  go_cut [] (fun wx => PlAt wx g base c v2 l2 { s2 with ip := ipx } ∧ Fr base w wx ∧ Blk wx b 44 [.int .i64 2, .int .i64 ticks, .int .i64 n, .int .u32 aip])
                  case first => as_aux_lemma =>
                    -- [[
                    cases hh : s2.held
                    · have HI := Lib.hid (show ipx = aip by rw [← HIP.out, if_neg (by rw [hh]; simp)])
                      have z1 := H7.out.1.free 48
                      have HF := Lib.hid (And.intro (H7.out.1.pIp aip) (And.intro (H7.out.1.frSet H7.out.2.1 48 (.int .u32 aip)) (H7.out.2.2.far (p := ⟨g, 48, none⟩) (fun e => absurd (blk_type (show Blk _ g _ _ by rw [← show b = g from e]; exact H7.out.2.2) H7.out.1.blk) (by decide)) (.int .u32 aip))))
                      clear hh
                      go_wp2_with fail
                      go_meet
                      exact ⟨by rw [HI.out]; exact HF.out.1, HF.out.2⟩
                    · have HI := Lib.hid (show ipx = s2.ip by rw [← HIP.out, if_pos hh])
                      clear hh
                      go_wp2_with fail
                      go_meet
                      exact ⟨by rw [HI.out]; exact H7.out.1, H7.out.2⟩
                    -- ]]
                  case rest =>
                    have H8 := Lib.hid hcut
                    clear hcut H7 q50 q51 q48 a2 a3
                    have q50 := H8.out.1.cHeld
                    have z50 := H8.out.1.free 50
                    have q49 := (H8.out.1.pHeld true).cTill
                    have z49 := H8.out.1.free 49
                    simp only at q50 q49
                    have hne : b ≠ g := fun e => absurd (blk_type (show Blk _ g _ _ by rw [← e]; exact H8.out.2.2) H8.out.1.blk) (by decide)
                    have HF := Lib.hid (And.intro ((H8.out.1.pHeld true).pTill (-1)) (And.intro ((H8.out.1.pHeld true).frSet (H8.out.1.frSet H8.out.2.1 50 (.bool true)) 49 (.int .i64 (-1))) ((H8.out.2.2.far (p := ⟨g, 50, none⟩) hne (.bool true)).far (p := ⟨g, 49, none⟩) hne (.int .i64 (-1)))))
                    clear H8 hne
                    go_upto_region 20 with fail
                    refine wp_gen (fun W => PlAt W g base c v2 l2 { s2 with ip := ipx, held := true, till := -1 } ∧ Fr base w W ∧ Blk W b 44 [.int .i64 2, .int .i64 ticks, .int .i64 n, .int .u32 aip]) HF.out ?_
                    clear HF q50 z50 q49 z49
                    intro w9 h9
                    have q46 := h9.1.cNow
                    have a2 := h9.2.2.cell 2
                    simp only [List.getElem?_cons_succ, List.getElem?_cons_zero] at a2 q46
                    have H9 := Lib.hid h9
                    clear h9
                    obtain ⟨tc, htc⟩ : ∃ tc, (decide (0 < n) && decide (n ≤ 1125899906842624 - s2.now)) = tc := ⟨_, rfl⟩
                    have HTC := Lib.hid htc
                    have HTX2 := Lib.hid (show tx = if tc = true then s2.now + n else -1 by
                      rw [← HTX.out, ← htc]
                      unfold tillQ
                      by_cases hc : 0 < n ∧ n ≤ 1125899906842624 - s2.now
                      · rw [if_pos hc, if_pos (by simp [hc])]
                      · rw [if_neg hc, if_neg (by simpa using hc)])
                    clear htc
                    go_cut [149] (fun t wx => t = .bool tc ∧ PlAt wx g base c v2 l2 { s2 with ip := ipx, held := true, till := -1 } ∧ Fr base w wx ∧ Blk wx b 44 [.int .i64 2, .int .i64 ticks, .int .i64 n, .int .u32 aip])
                    case first => as_aux_lemma =>
                      -- [[
                      have hx := HTC.out
                      by_cases t0 : 0 < n
                      · obtain ⟨td, htd⟩ : ∃ td, decide (n ≤ 1125899906842624 - s2.now) = td := ⟨_, rfl⟩
                        obtain rfl : td = tc := by rw [← hx, ← htd]; simp [t0]
                        generalize s2.now = nw at *
                        by_cases t1 : n ≤ 1125899906842624 - nw
                        · obtain rfl : td = true := by rw [← htd]; simp [t1]
                          clear htd hx HTC
                          go_quiet (fail)
                          go_wp2_with fail
                          go_meet
                          exact ⟨rfl, H9.out.1.nil ((Only.refl Nil _).drewN _), H9.out.2.1.drewN _, H9.out.2.2⟩
                        · obtain rfl : td = false := by rw [← htd]; simp [t1]
                          clear htd hx HTC
                          go_quiet (fail)
                          go_wp2_with fail
                          go_meet
                          exact ⟨rfl, H9.out.1.nil ((Only.refl Nil _).drewN _), H9.out.2.1.drewN _, H9.out.2.2⟩
                      · obtain rfl : tc = false := by rw [← hx]; simp [t0]
                        have hd0 : decide (0 < n) = false := by simp [t0]
                        clear hx HTC
                        go_quiet (fail)
                        go_wp2_with fail
                        go_meet
                        exact ⟨rfl, H9.out.1.nil ((Only.refl Nil _).drewN _), H9.out.2.1.drewN _, H9.out.2.2⟩
                      -- ]]
                    case rest =>
                      obtain ⟨rfl, h10⟩ := hcut
                      have H10 := Lib.hid h10
                      clear h10 H9 q46 a2
                      go_upto_if 149 with (fail)
                      go_cut [] (fun wx => PlAt wx g base c v2 l2 { s2 with ip := ipx, held := true, till := tx } ∧ Fr base w wx)
                      case first => as_aux_lemma =>
                        -- [[
                        cases tc
                        · have HI := Lib.hid (show tx = -1 by rw [HTX2.out]; simp)
                          go_wp2_with fail
                          go_meet
                          exact ⟨by rw [HI.out]; exact H10.out.1, H10.out.2.1⟩
                        · have HI := Lib.hid (show tx = s2.now + n by rw [HTX2.out]; simp)
                          have hx := HTC.out
                          simp only [Bool.and_eq_true, decide_eq_true_eq] at hx
                          obtain ⟨x0, x1⟩ := hx
                          have H11 := Lib.hid (And.intro (H10.out.1.nil (Only.refl Nil _).drew) (And.intro (H10.out.2.1.nil (Only.refl Nil _).drew) H10.out.2.2.drew))
                          have q46 := H11.out.1.cNow
                          have a2 := H11.out.2.2.cell 2
                          have q49 := H11.out.1.cTill
                          have z49 := H11.out.1.free 49
                          simp only [List.getElem?_cons_succ, List.getElem?_cons_zero] at a2 q46 q49
                          have HF := Lib.hid (And.intro (H11.out.1.pTill (s2.now + n)) (H11.out.1.frSet H11.out.2.1 49 (.int .i64 (s2.now + n))))
                          go_upto_region 21 with fail
                          go_still_tail 10, (by kernel_rfl)
                          change wpList _ _ _ _ _ (World.drew _)
                          clear H11 H10
                          go_wp2_with fail
                          go_meet
                          exact ⟨by rw [HI.out]; exact HF.out.1, HF.out.2⟩
                        -- ]]
                      case rest =>
                        have hcd := And.intro (hcut.1.nil (Only.refl Nil _).drew) (hcut.2.nil (Only.refl Nil _).drew)
                        have q48 := hcd.1.cIp
                        have q49 := hcd.1.cTill
                        simp only at q48 q49
                        have hadd := fun (w : World) (h : PlAt w g base c v2 l2 { s2 with ip := ipx, held := true, till := tx }) => add_any g base c v2 l2 _ ⟨2, 0, ipx, tx, 0, 0, none, 0, []⟩ w h (evB_bare hib.1 hib.2 rfl rfl rfl) (by omega)
                        unfold Ev.v at hadd
                        have HAdd := Lib.hid hadd
                        have HC := Lib.hid hcd
                        clear hadd hcut hcd H10
                        go_upto_region 22 with fail
                        go_still_tail 10, (by kernel_rfl)
                        change wpList _ _ _ _ _ (World.drew _)
                        go_wp2_with (go_at_call 32; refine (HAdd.out _ HC.out.1).mono ?_; rintro r w4 ⟨rfl, ⟨v4, hp4⟩, ho4⟩)
                        (try simp only [Exit.inBlock, Exit.then])
                        exact DoneQ.mk (HRR.out 0 _ _ (by rw [HX.out]; exact hp4) (HC.out.2.then ho4))
              · have HX := Lib.hid (show actQ c l2 s2 ⟨2, ticks, n, aip⟩ 0 = (l2, s2) by
                  have hor' : ¬ (s2.held = true ∨ hostP aip = true) := by rw [HHO.out]; exact hor
                  unfold actQ
                  rw [if_neg (show ¬ (2 : Int) = 1 by decide), if_pos rfl, if_neg hor'])
                obtain rfl : ho = false := by
                  cases ho
                  · rfl
                  · exact absurd (.inr rfl) hor
                have hh : s2.held = false := by
                  cases hs : s2.held
                  · rfl
                  · exact absurd (.inl hs) hor
                rw [hh] at q50
                clear hh hor
                go_wp2_with fail
                (try simp only [Exit.inBlock, Exit.then])
                exact DoneQ.mk (HRR.out 0 _ _ (by rw [HX.out]; exact H7.out.1) H7.out.2.1)
            · as_aux_lemma =>
              have HX := Lib.hid (show actQ c l2 s2 ⟨kind, ticks, n, aip⟩ 0 = (l2, s2) by simp [actQ, k1, k2, k3, k4, k5, k6])
              have b1 : (kind == 1) = false := by simp [k1]
              have b2 : (kind == 2) = false := by simp [k2]
              have b3 : (kind == 3) = false := by simp [k3]
              have b4 : (kind == 4) = false := by simp [k4]
              have b5 : (kind == 5) = false := by simp [k5]
              have b6 : (kind == 6) = false := by simp [k6]
              clear k1 k2 k3 k4 k5 k6
              go_wp2_with fail
              (try simp only [Exit.inBlock, Exit.then])
              exact DoneQ.mk (HRR.out 0 _ _ (by rw [HX.out]; exact H7.out.1) H7.out.2.1)
end Go.Proofs.Ythoaeolohnalnaa
