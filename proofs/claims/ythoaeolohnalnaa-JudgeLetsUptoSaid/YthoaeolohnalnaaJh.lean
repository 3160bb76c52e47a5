/-
  The judge's question of one event: the rule by which it is at fault, and the state behind it.
-/
import Derived.Test.YthoaeolohnalnaaJf
import Derived.Test.YthoaeolohnalnaaJg
namespace Go.Proofs.Ythoaeolohnalnaa
open Go.RowKit

theorem Ev.ok.off {S : Nat → Prop} {W W' : World} {e : Ev} (h : e.ok W) (ho : Only S W W') (hS : 0 < e.data.length → ∀ g, blkOf e.d = some g → ¬ S g) : e.ok W' := by
  refine ⟨h.ip0, h.ip1, ?_⟩
  obtain ⟨A, c, he, hc, hr⟩ := h.rb
  refine ⟨A, c, he, hc, fun h0 => ?_⟩
  obtain ⟨g, o, hA, hcell⟩ := hr h0
  exact ⟨g, o, hA, fun j hj => ho.cell (hcell j hj) (hS h0 g (by rw [he, hA]; rfl))⟩
def ruleP (c : Cfg) (s : Lk) (e : Ev) : Int × Lk :=
  if e.kind = 1 then (sentP c s e, s) else if e.kind = 2 then adoptP s e else if e.kind = 3 then dropP s e else if e.kind = 4 then fetchP s e else if e.kind = 5 then failP c s e else if e.kind = 6 then handoffP c s e else giveUpP s e
def lapsed (s : Lk) (e : Ev) : Bool := s.held && (!decide (s.till = -1) && (decide (s.till ≤ e.time) && !decide (e.kind = 3)))
def askP (c : Cfg) (s : Lk) (e : Ev) (first : Bool) : Int × Lk :=
  if formedP e = false then (1, s) else if first = false ∧ e.time < s.now then (2, s) else if rightP s e = false then (3, s) else if lapsed s e = true then (4, s) else ruleP c { s with awaited := 0, now := e.time } e
theorem formed_bounds {e : Ev} (h : formedP e = true) : 1 ≤ e.kind ∧ e.kind ≤ 7 ∧ 0 ≤ e.time ∧ e.time ≤ 1125899906842624 := by
  unfold formedP at h
  simp only [Bool.and_eq_true, decide_eq_true_eq] at h
  exact ⟨h.1, h.2.1, h.2.2.1, h.2.2.2.1⟩
/-- The rule of an event's kind is found in the map, and it answers as its kind's does. -/
theorem dispatch (g : Nat) (c : Cfg) (s : Lk) (e : Ev) (h1 : 1 ≤ e.kind) (h7 : e.kind ≤ 7) (ht0 : 0 ≤ e.time) (ht1 : e.time ≤ 1125899906842624) (hf0 : 0 ≤ s.fails) (hf1 : s.fails ≤ 1000000000000) :
    ∃ (F : FuncId) (i : Nat), Instr.findNow (.int .i64) (.int .i64 e.kind) ((ruleEs g).take 7).toArray.toList 0 = some (some (i, .func (.func F) #[.pointer (some ⟨g, 0, none⟩)] #[])) ∧ (∀ (args : Array Value) (W : World), (callFunc F args).run Try.prog W = .ok (.enter F args) W) ∧
      ∀ W, LkAt W g c s → e.ok W → Calls Try.prog F #[.pointer (some ⟨g, 0, none⟩), e.v] W (After W g c (ruleP c s e)) := by
  have hk : e.kind = 1 ∨ e.kind = 2 ∨ e.kind = 3 ∨ e.kind = 4 ∨ e.kind = 5 ∨ e.kind = 6 ∨ e.kind = 7 := by omega
  rcases hk with hk | hk | hk | hk | hk | hk | hk
  · refine ⟨49, 0, by rw [hk]; rfl, fun _ _ => by kernel_rfl, fun W hL he => ?_⟩
    have e1 : ruleP c s e = (sentP c s e, s) := by simp [ruleP, hk]
    rw [e1]
    exact (sent_any g c s e W hL he.rb).mono fun _ _ ⟨hr, ho⟩ => ⟨hr, hL.only ho id, ho.mono fun _ _ h => h.elim⟩
  · refine ⟨50, 1, by rw [hk]; rfl, fun _ _ => by kernel_rfl, fun W hL he => ?_⟩
    have e1 : ruleP c s e = adoptP s e := by simp [ruleP, hk]
    rw [e1]
    exact adopt_any g c s e W hL he.ip0 he.ip1
  · refine ⟨51, 2, by rw [hk]; rfl, fun _ _ => by kernel_rfl, fun W hL he => ?_⟩
    have e1 : ruleP c s e = dropP s e := by simp [ruleP, hk]
    rw [e1]
    exact drop_any g c s e W hL
  · refine ⟨52, 3, by rw [hk]; rfl, fun _ _ => by kernel_rfl, fun W hL he => ?_⟩
    have e1 : ruleP c s e = fetchP s e := by simp [ruleP, hk]
    rw [e1]
    exact fetch_any g c s e W hL he.ip0 he.ip1
  · refine ⟨53, 4, by rw [hk]; rfl, fun _ _ => by kernel_rfl, fun W hL he => ?_⟩
    have e1 : ruleP c s e = failP c s e := by simp [ruleP, hk]
    rw [e1]
    exact fail_any g c s e W hL hf0 hf1 ht0 ht1
  · refine ⟨54, 5, by rw [hk]; rfl, fun _ _ => by kernel_rfl, fun W hL he => ?_⟩
    have e1 : ruleP c s e = handoffP c s e := by simp [ruleP, hk]
    rw [e1]
    exact handoff_any g c s e W hL
  · refine ⟨55, 6, by rw [hk]; rfl, fun _ _ => by kernel_rfl, fun W hL he => ?_⟩
    have e1 : ruleP c s e = giveUpP s e := by simp [ruleP, hk]
    rw [e1]
    exact giveUp_any g c s e W hL
set_option maxHeartbeats 6400000 in
theorem ask_any (g : Nat) (c : Cfg) (s : Lk) (e : Ev) (first : Bool) (w : World) (h : LkAt w g c s) (he : e.ok w) (hb' : 0 < e.data.length → blkOf e.d ≠ some g) (hf0 : 0 ≤ s.fails) (hf1 : s.fails ≤ 1000000000000) :
    Calls Try.prog 28 #[.pointer (some ⟨g, 0, none⟩), e.v, .bool first] w (After w g c (askP c s e first)) := by
  have hmf : ∀ (fn : Fn) (first cap : Array Value) (w : World), (Instr.makeFunc fn first cap).run Try.prog w = .ok (.func fn first cap) w := fun _ _ _ _ => rfl
  obtain ⟨h1, h2, h3⟩ := boxed h e
  unfold Ev.cells at h1 h2 h3
  have hne : w.heap.size ≠ g := by have := h.lt; omega
  have HEv := Lib.hid (show ∀ W, Only (One g) w W → e.ok W from fun W ho => he.off ho fun h0 k hk hS => hb' h0 (by rw [hk, show k = g from hS]))
  obtain ⟨kind, time, ip, till, why, len, a, cap, data⟩ := e
  unfold Ev.v
  have hip0 := he.ip0
  have hip1 := he.ip1
  obtain ⟨b, hb⟩ : ∃ b, w.heap.size = b := ⟨_, rfl⟩
  rw [hb] at h3 hne
  have PRE := Lib.hid (And.intro h1 (And.intro h2 h3))
  have HW := Lib.hid (show g < w.heap.size from h.lt)
  clear h he hb'
  obtain ⟨now, held, sip, stl, under, over, fails, ready, awaited⟩ := s
  go_enter Try.func28, Try.ntmps28
  go_upto_region 1 with fail
  (try rw [hb])
  clear h1 h2 h3 hb
  refine wp_gen (fun W => LkAt W g c ⟨now, held, sip, stl, under, over, fails, ready, awaited⟩ ∧ Only (One g) w W ∧ Blk W b 48 [.int .i64 kind, .int .i64 time, .int .u32 ip, .int .i64 till, .int .i64 why, .int .i64 len, .slice a data.length cap]) PRE.out ?_
  clear PRE
  intro w1 h1
  have e0 : w1.cell? ⟨b, 0, none⟩ = some (.int .i64 kind) := h1.2.2.cell 0
  have e1 : w1.cell? ⟨b, 1, none⟩ = some (.int .i64 time) := h1.2.2.cell 1
  have e2 : w1.cell? ⟨b, 2, none⟩ = some (.int .u32 ip) := h1.2.2.cell 2
  have e3 : w1.cell? ⟨b, 3, none⟩ = some (.int .i64 till) := h1.2.2.cell 3
  have e4 : w1.cell? ⟨b, 4, none⟩ = some (.int .i64 why) := h1.2.2.cell 4
  have e5 : w1.cell? ⟨b, 5, none⟩ = some (.int .i64 len) := h1.2.2.cell 5
  have e6 : w1.cell? ⟨b, 6, none⟩ = some (.slice a data.length cap) := h1.2.2.cell 6
  have H1 := Lib.hid h1
  clear h1
  cases hf : formedP ⟨kind, time, ip, till, why, len, a, cap, data⟩
  · have HP := Lib.hid (show askP c ⟨now, held, sip, stl, under, over, fails, ready, awaited⟩ ⟨kind, time, ip, till, why, len, a, cap, data⟩ first = (1, ⟨now, held, sip, stl, under, over, fails, ready, awaited⟩) by simp [askP, hf])
    go_wp2_with (go_at_call 40; refine (formed_any ⟨kind, time, ip, till, why, len, a, cap, data⟩ _).mono ?_; rintro r w' ⟨rfl, ho⟩)
    go_ret
    exact ⟨by rw [HP.out]; rfl, by rw [HP.out]; exact H1.out.1.only ho id, H1.out.2.1.trans ho (fun _ h => h.elim)⟩
  · obtain ⟨hk1, hk7, ht0, ht1⟩ := formed_bounds hf
    go_upto_region 3 with (go_at_call 40; refine (formed_any ⟨kind, time, ip, till, why, len, a, cap, data⟩ _).mono ?_; rintro r w' ⟨rfl, ho⟩)
    refine wp_gen (fun W => LkAt W g c ⟨now, held, sip, stl, under, over, fails, ready, awaited⟩ ∧ Only (One g) w W ∧ Blk W b 48 [.int .i64 kind, .int .i64 time, .int .u32 ip, .int .i64 till, .int .i64 why, .int .i64 len, .slice a data.length cap]) ⟨H1.out.1.only ho id, H1.out.2.1.trans ho (fun _ h => h.elim), ho.blk H1.out.2.2 id⟩ ?_
    clear H1 ho e0 e1 e2 e3 e4 e5 e6
    intro w2 h2
    have e0 : w2.cell? ⟨b, 0, none⟩ = some (.int .i64 kind) := h2.2.2.cell 0
    have e1 : w2.cell? ⟨b, 1, none⟩ = some (.int .i64 time) := h2.2.2.cell 1
    have e2 : w2.cell? ⟨b, 2, none⟩ = some (.int .u32 ip) := h2.2.2.cell 2
    have e3 : w2.cell? ⟨b, 3, none⟩ = some (.int .i64 till) := h2.2.2.cell 3
    have e4 : w2.cell? ⟨b, 4, none⟩ = some (.int .i64 why) := h2.2.2.cell 4
    have e5 : w2.cell? ⟨b, 5, none⟩ = some (.int .i64 len) := h2.2.2.cell 5
    have e6 : w2.cell? ⟨b, 6, none⟩ = some (.slice a data.length cap) := h2.2.2.cell 6
    have c1 := h2.1.cNow
    have H2 := Lib.hid h2
    clear h2
    go_cut [11] (fun t wx => t = .bool (!first && decide (time < now)) ∧ LkAt wx g c ⟨now, held, sip, stl, under, over, fails, ready, awaited⟩ ∧ Only (One g) w wx ∧ Blk wx b 48 [.int .i64 kind, .int .i64 time, .int .u32 ip, .int .i64 till, .int .i64 why, .int .i64 len, .slice a data.length cap])
    case first =>
      cases first
      · by_cases ht : time < now
        · go_quiet (fail)
          go_wp2_with fail
          go_meet
          exact ⟨by simp [ht], H2.out.1.only ((Only.refl Nil _).drewN _) id, H2.out.2.1.drewN _, H2.out.2.2⟩
        · go_quiet (fail)
          go_wp2_with fail
          go_meet
          exact ⟨by simp at ht ⊢; omega, H2.out.1.only ((Only.refl Nil _).drewN _) id, H2.out.2.1.drewN _, H2.out.2.2⟩
      · go_quiet (fail)
        go_wp2_with fail
        go_meet
        exact ⟨rfl, H2.out.1.only ((Only.refl Nil _).drewN _) id, H2.out.2.1.drewN _, H2.out.2.2⟩
    case rest =>
      clear H2 e0 e1 e2 e3 e4 e5 e6 c1
      obtain ⟨rfl, h3⟩ := hcut
      have e0 : wc.cell? ⟨b, 0, none⟩ = some (.int .i64 kind) := h3.2.2.cell 0
      have e1 : wc.cell? ⟨b, 1, none⟩ = some (.int .i64 time) := h3.2.2.cell 1
      have e2 : wc.cell? ⟨b, 2, none⟩ = some (.int .u32 ip) := h3.2.2.cell 2
      have e3 : wc.cell? ⟨b, 3, none⟩ = some (.int .i64 till) := h3.2.2.cell 3
      have e4 : wc.cell? ⟨b, 4, none⟩ = some (.int .i64 why) := h3.2.2.cell 4
      have e5 : wc.cell? ⟨b, 5, none⟩ = some (.int .i64 len) := h3.2.2.cell 5
      have e6 : wc.cell? ⟨b, 6, none⟩ = some (.slice a data.length cap) := h3.2.2.cell 6
      have H3 := Lib.hid h3
      clear h3
      by_cases hl : first = false ∧ time < now
      · have e : (!first && decide (time < now)) = true := by simp [hl.1, hl.2]
        rw [e]
        have HP := Lib.hid (show askP c ⟨now, held, sip, stl, under, over, fails, ready, awaited⟩ ⟨kind, time, ip, till, why, len, a, cap, data⟩ first = (2, ⟨now, held, sip, stl, under, over, fails, ready, awaited⟩) by simp [askP, hf, hl])
        clear e hl
        go_wp2
        go_ret
        exact ⟨by rw [HP.out]; rfl, by rw [HP.out]; exact H3.out.1, H3.out.2.1⟩
      · have e : (!first && decide (time < now)) = false := by
          cases first
          · simp at hl ⊢; omega
          · rfl
        rw [e]
        clear e
        cases hr : rightP ⟨now, held, sip, stl, under, over, fails, ready, awaited⟩ ⟨kind, time, ip, till, why, len, a, cap, data⟩
        · have HP := Lib.hid (show askP c ⟨now, held, sip, stl, under, over, fails, ready, awaited⟩ ⟨kind, time, ip, till, why, len, a, cap, data⟩ first = (3, ⟨now, held, sip, stl, under, over, fails, ready, awaited⟩) by simp [askP, hf, hl, hr])
          clear hl
          go_wp2_with (go_at_call 41; refine (right_any g c ⟨now, held, sip, stl, under, over, fails, ready, awaited⟩ ⟨kind, time, ip, till, why, len, a, cap, data⟩ _ H3.out.1).mono ?_; rintro r w' ⟨rfl, ho⟩)
          go_ret
          exact ⟨by rw [HP.out]; rfl, by rw [HP.out]; exact H3.out.1.only ho id, H3.out.2.1.trans ho (fun _ h => h.elim)⟩
        · have HLa := Lib.hid hl
          clear hl
          go_upto_region 7 with (go_at_call 41; refine (right_any g c ⟨now, held, sip, stl, under, over, fails, ready, awaited⟩ ⟨kind, time, ip, till, why, len, a, cap, data⟩ _ H3.out.1).mono ?_; rintro r w' ⟨rfl, ho⟩)
          refine wp_gen (fun W => LkAt W g c ⟨now, held, sip, stl, under, over, fails, ready, awaited⟩ ∧ Only (One g) w W ∧ Blk W b 48 [.int .i64 kind, .int .i64 time, .int .u32 ip, .int .i64 till, .int .i64 why, .int .i64 len, .slice a data.length cap]) ⟨H3.out.1.only ho id, H3.out.2.1.trans ho (fun _ h => h.elim), ho.blk H3.out.2.2 id⟩ ?_
          clear H3 ho e0 e1 e2 e3 e4 e5 e6
          intro w4 h4
          have e0 : w4.cell? ⟨b, 0, none⟩ = some (.int .i64 kind) := h4.2.2.cell 0
          have e1 : w4.cell? ⟨b, 1, none⟩ = some (.int .i64 time) := h4.2.2.cell 1
          have e2 : w4.cell? ⟨b, 2, none⟩ = some (.int .u32 ip) := h4.2.2.cell 2
          have e3 : w4.cell? ⟨b, 3, none⟩ = some (.int .i64 till) := h4.2.2.cell 3
          have e4 : w4.cell? ⟨b, 4, none⟩ = some (.int .i64 why) := h4.2.2.cell 4
          have e5 : w4.cell? ⟨b, 5, none⟩ = some (.int .i64 len) := h4.2.2.cell 5
          have e6 : w4.cell? ⟨b, 6, none⟩ = some (.slice a data.length cap) := h4.2.2.cell 6
          have c2 := h4.1.cHeld
          have c4 := h4.1.cTill
          have H4 := Lib.hid h4
          clear h4
          go_cut [28] (fun t wx => t = .bool (lapsed ⟨now, held, sip, stl, under, over, fails, ready, awaited⟩ ⟨kind, time, ip, till, why, len, a, cap, data⟩) ∧ LkAt wx g c ⟨now, held, sip, stl, under, over, fails, ready, awaited⟩ ∧ Only (One g) w wx ∧ Blk wx b 48 [.int .i64 kind, .int .i64 time, .int .u32 ip, .int .i64 till, .int .i64 why, .int .i64 len, .slice a data.length cap])
          case first =>
            cases held
            · go_quiet (fail)
              go_wp2_with fail
              go_meet
              exact ⟨by simp [lapsed], H4.out.1.only ((Only.refl Nil _).drewN _) id, H4.out.2.1.drewN _, H4.out.2.2⟩
            · by_cases h1 : stl = -1
              · have h1b : (stl != -1) = false := by simp [h1]
                have Q1 := Lib.hid h1
                clear h1
                go_quiet (fail)
                go_wp2_with fail
                go_meet
                exact ⟨by simp [lapsed, Q1.out] <;> omega, H4.out.1.only ((Only.refl Nil _).drewN _) id, H4.out.2.1.drewN _, H4.out.2.2⟩
              · have h1b : (stl != -1) = true := by simp [h1]
                by_cases h2 : stl ≤ time
                · by_cases h3 : kind = 3
                  · have h3b : (kind != 3) = false := by simp [h3]
                    have Q3 := Lib.hid h3
                    clear h3
                    go_quiet (fail)
                    go_wp2_with fail
                    go_meet
                    exact ⟨by simp [lapsed, h1, h2, Q3.out] <;> omega, H4.out.1.only ((Only.refl Nil _).drewN _) id, H4.out.2.1.drewN _, H4.out.2.2⟩
                  · have h3b : (kind != 3) = true := by simp [h3]
                    go_quiet (fail)
                    go_wp2_with fail
                    go_meet
                    exact ⟨by simp [lapsed, h1, h2, h3] <;> omega, H4.out.1.only ((Only.refl Nil _).drewN _) id, H4.out.2.1.drewN _, H4.out.2.2⟩
                · go_quiet (fail)
                  go_wp2_with fail
                  go_meet
                  exact ⟨by simp [lapsed, h1] <;> omega, H4.out.1.only ((Only.refl Nil _).drewN _) id, H4.out.2.1.drewN _, H4.out.2.2⟩
          case rest =>
            clear H4 e0 e1 e2 e3 e4 e5 e6 c2 c4
            obtain ⟨rfl, h5⟩ := hcut
            have e0 : wc.cell? ⟨b, 0, none⟩ = some (.int .i64 kind) := h5.2.2.cell 0
            have e1 : wc.cell? ⟨b, 1, none⟩ = some (.int .i64 time) := h5.2.2.cell 1
            have e2 : wc.cell? ⟨b, 2, none⟩ = some (.int .u32 ip) := h5.2.2.cell 2
            have e3 : wc.cell? ⟨b, 3, none⟩ = some (.int .i64 till) := h5.2.2.cell 3
            have e4 : wc.cell? ⟨b, 4, none⟩ = some (.int .i64 why) := h5.2.2.cell 4
            have e5 : wc.cell? ⟨b, 5, none⟩ = some (.int .i64 len) := h5.2.2.cell 5
            have e6 : wc.cell? ⟨b, 6, none⟩ = some (.slice a data.length cap) := h5.2.2.cell 6
            have c1 := h5.1.cNow
            have c9 := h5.1.cAwaited
            have f1 := h5.1.free 45
            have f9 := h5.1.free 53
            have HT := Lib.hid (show LkAt ((wc.setCell ⟨g, 53, none⟩ (.int .i64 0)).setCell ⟨g, 45, none⟩ (.int .i64 time)) g c ⟨time, held, sip, stl, under, over, fails, ready, 0⟩ ∧ Only (One g) w ((wc.setCell ⟨g, 53, none⟩ (.int .i64 0)).setCell ⟨g, 45, none⟩ (.int .i64 time)) ∧ Blk ((wc.setCell ⟨g, 53, none⟩ (.int .i64 0)).setCell ⟨g, 45, none⟩ (.int .i64 time)) b 48 [.int .i64 kind, .int .i64 time, .int .u32 ip, .int .i64 till, .int .i64 why, .int .i64 len, .slice a data.length cap] from ⟨(h5.1.pAwaited 0).pNow time, (h5.2.1.setCell (p := ⟨g, 53, none⟩) (.inl (One.self g)) _).setCell (p := ⟨g, 45, none⟩) (.inl (One.self g)) _, (h5.2.2.far (p := ⟨g, 53, none⟩) hne _).far (p := ⟨g, 45, none⟩) hne _⟩)
            have H5 := Lib.hid h5
            clear h5
            cases hp : lapsed ⟨now, held, sip, stl, under, over, fails, ready, awaited⟩ ⟨kind, time, ip, till, why, len, a, cap, data⟩
            · go_upto_region 9 with fail
              go_region
              go_upto_region 10 with fail
              refine wp_gen (fun W => LkAt W g c ⟨time, held, sip, stl, under, over, fails, ready, 0⟩ ∧ Only (One g) w W ∧ Blk W b 48 [.int .i64 kind, .int .i64 time, .int .u32 ip, .int .i64 till, .int .i64 why, .int .i64 len, .slice a data.length cap]) ⟨HT.out.1.only ((Only.refl Nil _).drew) id, HT.out.2.1.drew, HT.out.2.2⟩ ?_
              clear HT H5 c1 c9 f1 f9 e0 e1 e2 e3 e4 e5 e6
              intro w6 h6
              have e0 : w6.cell? ⟨b, 0, none⟩ = some (.int .i64 kind) := h6.2.2.cell 0
              have e1 : w6.cell? ⟨b, 1, none⟩ = some (.int .i64 time) := h6.2.2.cell 1
              have e2 : w6.cell? ⟨b, 2, none⟩ = some (.int .u32 ip) := h6.2.2.cell 2
              have e3 : w6.cell? ⟨b, 3, none⟩ = some (.int .i64 till) := h6.2.2.cell 3
              have e4 : w6.cell? ⟨b, 4, none⟩ = some (.int .i64 why) := h6.2.2.cell 4
              have e5 : w6.cell? ⟨b, 5, none⟩ = some (.int .i64 len) := h6.2.2.cell 5
              have e6 : w6.cell? ⟨b, 6, none⟩ = some (.slice a data.length cap) := h6.2.2.cell 6
              have H6 := Lib.hid h6
              clear h6
              have HA := Lib.hid (show askP c ⟨now, held, sip, stl, under, over, fails, ready, awaited⟩ ⟨kind, time, ip, till, why, len, a, cap, data⟩ first = ruleP c ⟨time, held, sip, stl, under, over, fails, ready, 0⟩ ⟨kind, time, ip, till, why, len, a, cap, data⟩ by simp [askP, hf, HLa.out, hr, hp])
              have hcall := rules_any g w6.drew
              clear hf hr hp HLa
              obtain ⟨F, ix, hF, hcf, hFc⟩ := dispatch g c ⟨time, held, sip, stl, under, over, fails, ready, 0⟩ ⟨kind, time, ip, till, why, len, a, cap, data⟩ hk1 hk7 ht0 ht1 hf0 hf1
              have HF := Lib.hid hF
              have HFc := Lib.hid hFc
              clear hF hFc hk1 hk7 ht0 ht1 hf0 hf1 hip0 hip1
              go_region_law ((go_simp; first | (go_at_call 42; refine hcall.mono ?_; rintro r w7 ⟨rfl, hr7, ho7⟩; have hE := ho7.blk H6.out.2.2.drew id; have q0 : w7.cell? ⟨b, 0, none⟩ = some (.int .i64 kind) := hE.cell 0; have q1 : w7.cell? ⟨b, 1, none⟩ = some (.int .i64 time) := hE.cell 1; have q2 : w7.cell? ⟨b, 2, none⟩ = some (.int .u32 ip) := hE.cell 2; have q3 : w7.cell? ⟨b, 3, none⟩ = some (.int .i64 till) := hE.cell 3; have q4 : w7.cell? ⟨b, 4, none⟩ = some (.int .i64 why) := hE.cell 4; have q5 : w7.cell? ⟨b, 5, none⟩ = some (.int .i64 len) := hE.cell 5; have q6 : w7.cell? ⟨b, 6, none⟩ = some (.slice a data.length cap) := hE.cell 6; have hlk := run_lookup_int (b := w6.heap.size) (P := Try.prog) (t := 78) Try.underlying78 Try.underlying3 hr7 kind ix (.func (.func F) #[.pointer (some ⟨g, 0, none⟩)] #[]) HF.out; have HO7 := Lib.hid (H6.out.2.1.drew.trans ho7 (fun _ h => h.elim)); have HM := Lib.hid (HFc.out w7 ((H6.out.1.only ((Only.refl Nil _).drew) id).only ho7 id) (HEv.out w7 HO7.out)); clear hE hr7 ho7) | ((with_reducible show Calls _ _ #[_, _] _ _); refine HM.out.mono ?_; rintro r w8 ⟨rfl, hk8, ho8⟩)))
              all_goals
                have HZ := Lib.hid (And.intro hk8 (HO7.out.then ho8))
                clear hk8 ho8 HM HO7 HF HFc hlk
                go_wp2
                go_ret
                exact ⟨by rw [HA.out]; rfl, by rw [HA.out]; exact HZ.out.1, HZ.out.2⟩
            · have HP := Lib.hid (show askP c ⟨now, held, sip, stl, under, over, fails, ready, awaited⟩ ⟨kind, time, ip, till, why, len, a, cap, data⟩ first = (4, ⟨now, held, sip, stl, under, over, fails, ready, awaited⟩) by simp [askP, hf, HLa.out, hr, hp])
              go_wp2
              go_ret
              exact ⟨by rw [HP.out]; rfl, by rw [HP.out]; exact H5.out.1, H5.out.2.1⟩
end Go.Proofs.Ythoaeolohnalnaa
