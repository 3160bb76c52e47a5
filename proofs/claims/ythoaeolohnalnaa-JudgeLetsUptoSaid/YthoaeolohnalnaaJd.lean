/-
  What the judge asks of an event of each kind: the rule, and the state behind it.
-/
import Derived.Test.YthoaeolohnalnaaJc
namespace Go.Proofs.Ythoaeolohnalnaa
open Go.RowKit

def adoptBad (s : Lk) (e : Ev) : Bool := !hostP e.ip || ((!decide (e.till = -1) && (decide (e.till ≤ e.time) || decide (1125899906842624 < e.till))) || (s.held && !decide (s.ip = e.ip)))
def adoptP (s : Lk) (e : Ev) : Int × Lk := if adoptBad s e then (7, s) else (0, { s with held := true, ip := e.ip, till := e.till })
def dropBad (s : Lk) (e : Ev) : Bool := !s.held || !decide (s.ip = e.ip)
def dropP (s : Lk) (e : Ev) : Int × Lk := if dropBad s e then (8, s) else (0, { s with held := false, awaited := if s.under then 5 else s.awaited })
def fetchBad (s : Lk) (e : Ev) : Bool := !hostP e.ip || !mayP s e.time
def fetchP (s : Lk) (e : Ev) : Int × Lk := if fetchBad s e then (9, s) else (0, { s with under := true })
def backoff (n : Int) : Int := if (800 : Int) < 50 * 2 ^ (if 10 < n then 10 else n).toNat then 800 else 50 * 2 ^ (if 10 < n then 10 else n).toNat
def readyP (t b : Int) : Int := if 1125899906842624 < t + b - b / 4 then 1125899906842624 else t + b - b / 4
def failBad (s : Lk) (e : Ev) : Bool := decide (e.why < 1) || (decide (7 < e.why) || ((decide (e.why = 7) && !mayP s e.time) || (!decide (e.why = 7) && !s.under)))
def failP (c : Cfg) (s : Lk) (e : Ev) : Int × Lk := if failBad s e then (10, s) else
  (0, { s with under := false, fails := s.fails + 1, ready := readyP e.time (backoff s.fails), awaited := if s.fails + 1 = c.att then 7 else s.awaited })
def handoffBad (c : Cfg) (s : Lk) (e : Ev) : Bool := !s.under || (decide (e.len < 0) || decide (c.most < e.len))
def handoffP (c : Cfg) (s : Lk) (e : Ev) : Int × Lk := if handoffBad c s e then (11, s) else (0, { s with under := false, over := true })
def giveUpP (s : Lk) (_ : Ev) : Int × Lk := (0, { s with over := true })
theorem pow_small : ∀ k : Nat, k ≤ 10 → 1 ≤ (2 : Int) ^ k ∧ (2 : Int) ^ k ≤ 1024
  | 0, _ => by decide
  | 1, _ => by decide
  | 2, _ => by decide
  | 3, _ => by decide
  | 4, _ => by decide
  | 5, _ => by decide
  | 6, _ => by decide
  | 7, _ => by decide
  | 8, _ => by decide
  | 9, _ => by decide
  | 10, _ => by decide
  | k + 11, h => by omega
theorem backoff_eq (n : Int) (h0 : 0 ≤ n) : (if 800 < wrap64 (50 * 2 ^ (if 10 < n then 10 else n).toNat) then 800 else wrap64 (50 * 2 ^ (if 10 < n then 10 else n).toNat)) = backoff n ∧ 0 ≤ backoff n ∧ backoff n ≤ 800 := by
  have hk : (if 10 < n then 10 else n).toNat ≤ 10 := by split <;> omega
  unfold backoff
  generalize (if 10 < n then 10 else n).toNat = k at *
  obtain ⟨h1, h2⟩ := pow_small k hk
  generalize (2 : Int) ^ k = x at *
  have e : wrap64 (50 * x) = 50 * x := IntWalk.wrap64_in (50 * x) (by omega)
  rw [e]
  refine ⟨rfl, ?_, ?_⟩ <;> split <;> omega
theorem host_is (ip : Int) (x : Bool) (h : hostP ip = x) (w : World) : Calls Try.prog 60 #[.int .u32 ip] w fun e w' => e = .returned (.bool x) ∧ w' = w :=
  (host_any ip w).mono fun _ _ ⟨h1, h2⟩ => ⟨h1.trans (by rw [h]), h2.symm⟩
/-- What a call answers and leaves. -/
def After (w : World) (g : Nat) (c : Cfg) (p : Int × Lk) (r : Ending) (w' : World) : Prop := r = .returned (.int .i64 p.1) ∧ LkAt w' g c p.2 ∧ Only (One g) w w'
theorem Ev.v_eq (e : Ev) : e.v = .agg e.cells.toArray := rfl
section
variable {w w' : World} {g : Nat} {c : Cfg} {s : Lk}
/-- The event laid into memory ahead of a method's body. -/
theorem boxed (h : LkAt w g c s) (e : Ev) : LkAt (w.alloc (.cells e.cells.toArray 48)) g c s ∧ Only (One g) w (w.alloc (.cells e.cells.toArray 48)) ∧ Blk (w.alloc (.cells e.cells.toArray 48)) w.heap.size 48 e.cells :=
  ⟨h.only ((Only.refl Nil w).alloc _) id, (Only.refl _ _).alloc _, Blk.new w _ _⟩
end

theorem giveUp_any (g : Nat) (c : Cfg) (s : Lk) (e : Ev) (w : World) (h : LkAt w g c s) : Calls Try.prog 55 #[.pointer (some ⟨g, 0, none⟩), e.v] w (After w g c (giveUpP s e)) := by
  obtain ⟨h1, h2, h3⟩ := boxed h e
  unfold Ev.cells at h1 h2 h3
  obtain ⟨kind, time, ip, till, why, len, a, cap, data⟩ := e
  unfold Ev.v
  have c6 := h1.cOver
  have f6 := h1.free 50
  have HA := Lib.hid (And.intro (h1.pOver true) (h2.setCell (p := ⟨g, 50, none⟩) (.inl (One.self g)) (.bool true)))
  clear h h1 h2 h3
  go_enter Try.func55, Try.ntmps55
  go_wp2
  go_ret
  exact ⟨rfl, HA.out.1, HA.out.2⟩
set_option maxHeartbeats 3200000 in
theorem drop_any (g : Nat) (c : Cfg) (s : Lk) (e : Ev) (w : World) (h : LkAt w g c s) : Calls Try.prog 51 #[.pointer (some ⟨g, 0, none⟩), e.v] w (After w g c (dropP s e)) := by
  obtain ⟨h1, h2, h3⟩ := boxed h e
  unfold Ev.cells at h1 h2 h3
  have hne : w.heap.size ≠ g := by have := h.lt; omega
  obtain ⟨kind, time, ip, till, why, len, a, cap, data⟩ := e
  unfold Ev.v
  obtain ⟨b, hb⟩ : ∃ b, w.heap.size = b := ⟨_, rfl⟩
  rw [hb] at h3 hne
  clear h
  have PRE := Lib.hid (And.intro h1 (And.intro h2 h3))
  obtain ⟨now, held, sip, stl, under, over, fails, ready, awaited⟩ := s
  go_enter Try.func51, Try.ntmps51
  go_upto_region 1 with fail
  (try rw [hb])
  clear h1 h2 h3 hb
  refine wp_gen (fun W => LkAt W g c ⟨now, held, sip, stl, under, over, fails, ready, awaited⟩ ∧ Only (One g) w W ∧ Blk W b 48 [.int .i64 kind, .int .i64 time, .int .u32 ip, .int .i64 till, .int .i64 why, .int .i64 len, .slice a data.length cap]) PRE.out ?_
  clear PRE
  intro w1 h1
  have H1 := Lib.hid h1
  have c2 := h1.1.cHeld
  have c3 := h1.1.cIp
  have e2 : w1.cell? ⟨b, 2, none⟩ = some (.int .u32 ip) := h1.2.2.cell 2
  clear h1
  cases held
  · have HP := Lib.hid (show dropP ⟨now, false, sip, stl, under, over, fails, ready, awaited⟩ ⟨kind, time, ip, till, why, len, a, cap, data⟩ = (8, ⟨now, false, sip, stl, under, over, fails, ready, awaited⟩) by simp [dropP, dropBad])
    go_quiet (fail)
    go_wp2
    go_ret
    exact ⟨by rw [HP.out]; rfl, by rw [HP.out]; exact H1.out.1, H1.out.2.1.drewN _⟩
  · by_cases hi : sip = ip
    · have hi2 := hi.symm
      subst hi2
      go_quiet (fail)
      go_upto_region 3 with fail
      refine wp_gen (fun W => LkAt W g c ⟨now, true, ip, stl, under, over, fails, ready, awaited⟩ ∧ Only (One g) w W ∧ Blk W b 48 [.int .i64 kind, .int .i64 time, .int .u32 ip, .int .i64 till, .int .i64 why, .int .i64 len, .slice a data.length cap]) ⟨H1.out.1.only ((Only.refl Nil w1).drewN nq) id, H1.out.2.1.drewN nq, H1.out.2.2⟩ ?_
      clear c2 c3 e2 H1
      intro w2 h2
      have H2 := Lib.hid h2
      have c2 := h2.1.cHeld
      have c5 := h2.1.cUnder
      have f2 := h2.1.free 46
      have HT := Lib.hid (And.intro (h2.1.pHeld false) (h2.2.1.setCell (p := ⟨g, 46, none⟩) (.inl (One.self g)) (.bool false)))
      clear h2
      go_upto_region 4 with fail
      refine wp_gen (fun W => LkAt W g c ⟨now, false, ip, stl, under, over, fails, ready, awaited⟩ ∧ Only (One g) w W) HT.out ?_
      clear c2 c5 f2 HT
      intro w3 h3
      have c5 := h3.1.cUnder
      have c9 := h3.1.cAwaited
      have f9 := h3.1.free 53
      have HT := Lib.hid (And.intro (h3.1.pAwaited 5) (h3.2.setCell (p := ⟨g, 53, none⟩) (.inl (One.self g)) (.int .i64 5)))
      have H3 := Lib.hid h3
      clear h3
      cases under
      · have HP := Lib.hid (show dropP ⟨now, true, ip, stl, false, over, fails, ready, awaited⟩ ⟨kind, time, ip, till, why, len, a, cap, data⟩ = (0, ⟨now, false, ip, stl, false, over, fails, ready, awaited⟩) by simp [dropP, dropBad])
        go_wp2
        go_ret
        exact ⟨by rw [HP.out]; rfl, by rw [HP.out]; exact H3.out.1, H3.out.2⟩
      · have HP := Lib.hid (show dropP ⟨now, true, ip, stl, true, over, fails, ready, awaited⟩ ⟨kind, time, ip, till, why, len, a, cap, data⟩ = (0, ⟨now, false, ip, stl, true, over, fails, ready, 5⟩) by simp [dropP, dropBad])
        go_wp2
        go_ret
        exact ⟨by rw [HP.out]; rfl, by rw [HP.out]; exact HT.out.1, HT.out.2⟩
    · have hib : (sip != ip) = true := by simp [hi]
      have HP := Lib.hid (show dropP ⟨now, true, sip, stl, under, over, fails, ready, awaited⟩ ⟨kind, time, ip, till, why, len, a, cap, data⟩ = (8, ⟨now, true, sip, stl, under, over, fails, ready, awaited⟩) by simp [dropP, dropBad, hi])
      go_quiet (fail)
      go_wp2
      go_ret
      exact ⟨by rw [HP.out]; rfl, by rw [HP.out]; exact H1.out.1, H1.out.2.1.drewN _⟩
set_option maxHeartbeats 3200000 in
theorem handoff_any (g : Nat) (c : Cfg) (s : Lk) (e : Ev) (w : World) (h : LkAt w g c s) : Calls Try.prog 54 #[.pointer (some ⟨g, 0, none⟩), e.v] w (After w g c (handoffP c s e)) := by
  obtain ⟨h1, h2, h3⟩ := boxed h e
  unfold Ev.cells at h1 h2 h3
  have hne : w.heap.size ≠ g := by have := h.lt; omega
  obtain ⟨kind, time, ip, till, why, len, a, cap, data⟩ := e
  unfold Ev.v
  obtain ⟨b, hb⟩ : ∃ b, w.heap.size = b := ⟨_, rfl⟩
  rw [hb] at h3 hne
  clear h
  have PRE := Lib.hid (And.intro h1 (And.intro h2 h3))
  obtain ⟨now, held, sip, stl, under, over, fails, ready, awaited⟩ := s
  go_enter Try.func54, Try.ntmps54
  go_upto_region 1 with fail
  (try rw [hb])
  clear h1 h2 h3 hb
  refine wp_gen (fun W => LkAt W g c ⟨now, held, sip, stl, under, over, fails, ready, awaited⟩ ∧ Only (One g) w W ∧ Blk W b 48 [.int .i64 kind, .int .i64 time, .int .u32 ip, .int .i64 till, .int .i64 why, .int .i64 len, .slice a data.length cap]) PRE.out ?_
  clear PRE
  intro w1 h1
  have H1 := Lib.hid h1
  have c5 := h1.1.cUnder
  have cm := h1.1.cMost
  have e5 : w1.cell? ⟨b, 5, none⟩ = some (.int .i64 len) := h1.2.2.cell 5
  clear h1
  cases under
  · have HP := Lib.hid (show handoffP c ⟨now, held, sip, stl, false, over, fails, ready, awaited⟩ ⟨kind, time, ip, till, why, len, a, cap, data⟩ = (11, ⟨now, held, sip, stl, false, over, fails, ready, awaited⟩) by simp [handoffP, handoffBad])
    go_quiet (fail)
    go_wp2
    go_ret
    exact ⟨by rw [HP.out]; rfl, by rw [HP.out]; exact H1.out.1, H1.out.2.1.drewN _⟩
  · by_cases hl : len < 0
    · have HP := Lib.hid (show handoffP c ⟨now, held, sip, stl, true, over, fails, ready, awaited⟩ ⟨kind, time, ip, till, why, len, a, cap, data⟩ = (11, ⟨now, held, sip, stl, true, over, fails, ready, awaited⟩) by simp [handoffP, handoffBad, hl])
      go_quiet (fail)
      go_wp2
      go_ret
      exact ⟨by rw [HP.out]; rfl, by rw [HP.out]; exact H1.out.1, H1.out.2.1.drewN _⟩
    · by_cases hm : c.most < len
      · have HP := Lib.hid (show handoffP c ⟨now, held, sip, stl, true, over, fails, ready, awaited⟩ ⟨kind, time, ip, till, why, len, a, cap, data⟩ = (11, ⟨now, held, sip, stl, true, over, fails, ready, awaited⟩) by simp [handoffP, handoffBad, hm])
        go_quiet (fail)
        go_wp2
        go_ret
        exact ⟨by rw [HP.out]; rfl, by rw [HP.out]; exact H1.out.1, H1.out.2.1.drewN _⟩
      · have HP := Lib.hid (show handoffP c ⟨now, held, sip, stl, true, over, fails, ready, awaited⟩ ⟨kind, time, ip, till, why, len, a, cap, data⟩ = (0, ⟨now, held, sip, stl, false, true, fails, ready, awaited⟩) by simp [handoffP, handoffBad, hl, hm])
        go_quiet (fail)
        go_upto_region 3 with fail
        refine wp_gen (fun W => LkAt W g c ⟨now, held, sip, stl, true, over, fails, ready, awaited⟩ ∧ Only (One g) w W ∧ Blk W b 48 [.int .i64 kind, .int .i64 time, .int .u32 ip, .int .i64 till, .int .i64 why, .int .i64 len, .slice a data.length cap]) ⟨H1.out.1.only ((Only.refl Nil w1).drewN nq) id, H1.out.2.1.drewN nq, H1.out.2.2⟩ ?_
        clear c5 cm e5 H1
        intro w2 h2
        have H2 := Lib.hid h2
        have c5 := h2.1.cUnder
        have c6 := h2.1.cOver
        have f5 := h2.1.free 49
        have f6 := h2.1.free 50
        have HT := Lib.hid (And.intro ((h2.1.pUnder false).pOver true) ((h2.2.1.setCell (p := ⟨g, 49, none⟩) (.inl (One.self g)) (.bool false)).setCell (p := ⟨g, 50, none⟩) (.inl (One.self g)) (.bool true)))
        clear h2
        go_wp2
        go_ret
        exact ⟨by rw [HP.out]; rfl, by rw [HP.out]; exact HT.out.1, HT.out.2⟩
set_option maxHeartbeats 3200000 in
theorem fetch_any (g : Nat) (c : Cfg) (s : Lk) (e : Ev) (w : World) (h : LkAt w g c s) (hi0 : 0 ≤ e.ip) (hi1 : e.ip < 4294967296) : Calls Try.prog 52 #[.pointer (some ⟨g, 0, none⟩), e.v] w (After w g c (fetchP s e)) := by
  obtain ⟨h1, h2, h3⟩ := boxed h e
  unfold Ev.cells at h1 h2 h3
  have hne : w.heap.size ≠ g := by have := h.lt; omega
  obtain ⟨kind, time, ip, till, why, len, a, cap, data⟩ := e
  unfold Ev.v
  obtain ⟨b, hb⟩ : ∃ b, w.heap.size = b := ⟨_, rfl⟩
  rw [hb] at h3 hne
  clear h
  have PRE := Lib.hid (And.intro h1 (And.intro h2 h3))
  obtain ⟨now, held, sip, stl, under, over, fails, ready, awaited⟩ := s
  go_enter Try.func52, Try.ntmps52
  go_upto_region 1 with fail
  (try rw [hb])
  clear h1 h2 h3 hb
  refine wp_gen (fun W => LkAt W g c ⟨now, held, sip, stl, under, over, fails, ready, awaited⟩ ∧ Only (One g) w W ∧ Blk W b 48 [.int .i64 kind, .int .i64 time, .int .u32 ip, .int .i64 till, .int .i64 why, .int .i64 len, .slice a data.length cap]) PRE.out ?_
  clear PRE
  intro w1 h1
  have H1 := Lib.hid h1
  have e1 : w1.cell? ⟨b, 1, none⟩ = some (.int .i64 time) := h1.2.2.cell 1
  have e2 : w1.cell? ⟨b, 2, none⟩ = some (.int .u32 ip) := h1.2.2.cell 2
  clear h1
  cases hh : hostP ip
  · have HP := Lib.hid (show fetchP ⟨now, held, sip, stl, under, over, fails, ready, awaited⟩ ⟨kind, time, ip, till, why, len, a, cap, data⟩ = (9, ⟨now, held, sip, stl, under, over, fails, ready, awaited⟩) by simp [fetchP, fetchBad, hh])
    go_wp2_with (first
      | (go_at_call 60; refine (host_any ip _).mono ?_; rintro r w' ⟨rfl, rfl⟩)
      | (go_at_call 61; refine (may_any g c ⟨now, held, sip, stl, under, over, fails, ready, awaited⟩ time _ H1.out.1).mono ?_; rintro r w' ⟨rfl, rfl⟩))
    go_ret
    exact ⟨by rw [HP.out]; rfl, by rw [HP.out]; exact H1.out.1, H1.out.2.1⟩
  · cases hm : mayP ⟨now, held, sip, stl, under, over, fails, ready, awaited⟩ time
    · have HP := Lib.hid (show fetchP ⟨now, held, sip, stl, under, over, fails, ready, awaited⟩ ⟨kind, time, ip, till, why, len, a, cap, data⟩ = (9, ⟨now, held, sip, stl, under, over, fails, ready, awaited⟩) by simp [fetchP, fetchBad, hh, hm])
      go_wp2_with (first
      | (go_at_call 60; refine (host_any ip _).mono ?_; rintro r w' ⟨rfl, rfl⟩)
      | (go_at_call 61; refine (may_any g c ⟨now, held, sip, stl, under, over, fails, ready, awaited⟩ time _ H1.out.1).mono ?_; rintro r w' ⟨rfl, rfl⟩))
      go_ret
      exact ⟨by rw [HP.out]; rfl, by rw [HP.out]; exact H1.out.1, H1.out.2.1⟩
    · have HP := Lib.hid (show fetchP ⟨now, held, sip, stl, under, over, fails, ready, awaited⟩ ⟨kind, time, ip, till, why, len, a, cap, data⟩ = (0, ⟨now, held, sip, stl, true, over, fails, ready, awaited⟩) by simp [fetchP, fetchBad, hh, hm])
      go_upto_region 3 with (first
      | (go_at_call 60; refine (host_any ip _).mono ?_; rintro r w' ⟨rfl, rfl⟩)
      | (go_at_call 61; refine (may_any g c ⟨now, held, sip, stl, under, over, fails, ready, awaited⟩ time _ H1.out.1).mono ?_; rintro r w' ⟨rfl, rfl⟩))
      refine wp_gen (fun W => LkAt W g c ⟨now, held, sip, stl, under, over, fails, ready, awaited⟩ ∧ Only (One g) w W ∧ Blk W b 48 [.int .i64 kind, .int .i64 time, .int .u32 ip, .int .i64 till, .int .i64 why, .int .i64 len, .slice a data.length cap]) ⟨H1.out.1, H1.out.2.1, H1.out.2.2⟩ ?_
      clear e1 e2 hm hh H1
      intro w2 h2
      have H2 := Lib.hid h2
      have c5 := h2.1.cUnder
      have f5 := h2.1.free 49
      have HT := Lib.hid (And.intro (h2.1.pUnder true) (h2.2.1.setCell (p := ⟨g, 49, none⟩) (.inl (One.self g)) (.bool true)))
      clear h2
      go_wp2
      go_ret
      exact ⟨by rw [HP.out]; rfl, by rw [HP.out]; exact HT.out.1, HT.out.2⟩
set_option maxHeartbeats 3200000 in
theorem fail_any (g : Nat) (c : Cfg) (s : Lk) (e : Ev) (w : World) (h : LkAt w g c s) (hf0 : 0 ≤ s.fails) (hf1 : s.fails ≤ 1000000000000) (ht0 : 0 ≤ e.time) (ht1 : e.time ≤ 1125899906842624) : Calls Try.prog 53 #[.pointer (some ⟨g, 0, none⟩), e.v] w (After w g c (failP c s e)) := by
  obtain ⟨h1, h2, h3⟩ := boxed h e
  unfold Ev.cells at h1 h2 h3
  have hne : w.heap.size ≠ g := by have := h.lt; omega
  obtain ⟨kind, time, ip, till, why, len, a, cap, data⟩ := e
  unfold Ev.v
  obtain ⟨b, hb⟩ : ∃ b, w.heap.size = b := ⟨_, rfl⟩
  rw [hb] at h3 hne
  clear h
  have PRE := Lib.hid (And.intro h1 (And.intro h2 h3))
  obtain ⟨now, held, sip, stl, under, over, fails, ready, awaited⟩ := s
  go_enter Try.func53, Try.ntmps53
  go_upto_region 1 with fail
  (try rw [hb])
  clear h1 h2 h3 hb
  refine wp_gen (fun W => LkAt W g c ⟨now, held, sip, stl, under, over, fails, ready, awaited⟩ ∧ Only (One g) w W ∧ Blk W b 48 [.int .i64 kind, .int .i64 time, .int .u32 ip, .int .i64 till, .int .i64 why, .int .i64 len, .slice a data.length cap]) PRE.out ?_
  clear PRE
  intro w1 h1
  have H1 := Lib.hid h1
  have e1 : w1.cell? ⟨b, 1, none⟩ = some (.int .i64 time) := h1.2.2.cell 1
  have e4 : w1.cell? ⟨b, 4, none⟩ = some (.int .i64 why) := h1.2.2.cell 4
  have c5 := h1.1.cUnder
  clear h1
  by_cases hw1 : why < 1
  · have HP := Lib.hid (show failP c ⟨now, held, sip, stl, under, over, fails, ready, awaited⟩ ⟨kind, time, ip, till, why, len, a, cap, data⟩ = (10, ⟨now, held, sip, stl, under, over, fails, ready, awaited⟩) by simp [failP, failBad, hw1])
    go_wp2
    go_ret
    exact ⟨by rw [HP.out]; rfl, by rw [HP.out]; exact H1.out.1, H1.out.2.1⟩
  by_cases hw7 : 7 < why
  · have HP := Lib.hid (show failP c ⟨now, held, sip, stl, under, over, fails, ready, awaited⟩ ⟨kind, time, ip, till, why, len, a, cap, data⟩ = (10, ⟨now, held, sip, stl, under, over, fails, ready, awaited⟩) by simp [failP, failBad, hw7])
    go_wp2
    go_ret
    exact ⟨by rw [HP.out]; rfl, by rw [HP.out]; exact H1.out.1, H1.out.2.1⟩
  by_cases he : why = 7
  · subst he
    cases hm : mayP ⟨now, held, sip, stl, under, over, fails, ready, awaited⟩ time
    · have HP := Lib.hid (show failP c ⟨now, held, sip, stl, under, over, fails, ready, awaited⟩ ⟨kind, time, ip, till, 7, len, a, cap, data⟩ = (10, ⟨now, held, sip, stl, under, over, fails, ready, awaited⟩) by simp [failP, failBad, hm])
      go_wp2_with ((go_at_call 61; refine (may_any g c ⟨now, held, sip, stl, under, over, fails, ready, awaited⟩ time _ H1.out.1).mono ?_; rintro r w' ⟨rfl, rfl⟩))
      go_ret
      exact ⟨by rw [HP.out]; rfl, by rw [HP.out]; exact H1.out.1, H1.out.2.1⟩
    · go_upto_region 7 with ((go_at_call 61; refine (may_any g c ⟨now, held, sip, stl, under, over, fails, ready, awaited⟩ time _ H1.out.1).mono ?_; rintro r w' ⟨rfl, rfl⟩))
      refine wp_gen (fun W => LkAt W g c ⟨now, held, sip, stl, under, over, fails, ready, awaited⟩ ∧ Only (One g) w W ∧ Blk W b 48 [.int .i64 kind, .int .i64 time, .int .u32 ip, .int .i64 till, .int .i64 7, .int .i64 len, .slice a data.length cap]) H1.out ?_
      clear e1 e4 c5 H1
      intro w2 h2
      have c5 := h2.1.cUnder
      have c7 := h2.1.cFails
      have f5 := h2.1.free 49
      have HT := Lib.hid (And.intro (h2.1.pUnder false) (And.intro (h2.2.1.setCell (p := ⟨g, 49, none⟩) (.inl (One.self g)) (.bool false)) (h2.2.2.far (p := ⟨g, 49, none⟩) hne (.bool false))))
      clear h2
      go_upto_region 8 with fail
      refine wp_gen (fun W => LkAt W g c ⟨now, held, sip, stl, false, over, fails, ready, awaited⟩ ∧ Only (One g) w W ∧ Blk W b 48 [.int .i64 kind, .int .i64 time, .int .u32 ip, .int .i64 till, .int .i64 7, .int .i64 len, .slice a data.length cap]) HT.out ?_
      clear c5 c7 f5 HT
      intro w3 h3
      have c7 := h3.1.cFails
      have f7 := h3.1.free 51
      have HT := Lib.hid (And.intro (h3.1.pFails (fails + 1)) (And.intro (h3.2.1.setCell (p := ⟨g, 51, none⟩) (.inl (One.self g)) (.int .i64 (fails + 1))) (h3.2.2.far (p := ⟨g, 51, none⟩) hne (.int .i64 (fails + 1)))))
      clear h3
      go_upto_region 9 with fail
      obtain ⟨hbk, hb0, hb1⟩ := backoff_eq fails hf0
      rw [hbk]
      clear hbk
      obtain ⟨bo, hbo⟩ : ∃ b, backoff fails = b := ⟨_, rfl⟩
      have HBO := Lib.hid hbo
      rw [hbo] at hb0 hb1 ⊢
      clear hbo
      go_upto_region 10 with fail
      refine wp_gen (fun W => LkAt W g c ⟨now, held, sip, stl, false, over, (fails + 1), ready, awaited⟩ ∧ Only (One g) w W ∧ Blk W b 48 [.int .i64 kind, .int .i64 time, .int .u32 ip, .int .i64 till, .int .i64 7, .int .i64 len, .slice a data.length cap]) HT.out ?_
      clear c7 f7 HT
      intro w4 h4
      have c8 := h4.1.cReady
      have f8 := h4.1.free 52
      have e1 : w4.cell? ⟨b, 1, none⟩ = some (.int .i64 time) := h4.2.2.cell 1
      have HT := Lib.hid (And.intro (h4.1.pReady (readyP time bo)) (h4.2.1.setCell (p := ⟨g, 52, none⟩) (.inl (One.self g)) (.int .i64 (readyP time bo))))
      clear h4
      have hd := Int.tdiv_eq_ediv_of_nonneg (b := 4) hb0
      go_upto_region 11 with fail
      refine wp_gen (fun W => LkAt W g c ⟨now, held, sip, stl, false, over, (fails + 1), (readyP time bo), awaited⟩ ∧ Only (One g) w W) HT.out ?_
      clear c8 f8 e1 hd HT
      intro w5 h5
      have c7 := h5.1.cFails
      have ca := h5.1.cAtt
      have H5 := Lib.hid h5
      clear h5
      by_cases hat : fails + 1 = c.att
      · have HP := Lib.hid (show failP c ⟨now, held, sip, stl, under, over, fails, ready, awaited⟩ ⟨kind, time, ip, till, 7, len, a, cap, data⟩ = (0, ⟨now, held, sip, stl, false, over, (fails + 1), (readyP time bo), 7⟩) by simp [failP, failBad, HBO.out, hat, hm])
        have hab : (fails + 1 == c.att) = true := by simp [hat]
        clear hat
        go_quiet (fail)
        go_upto_region 12 with fail
        refine wp_gen (fun W => LkAt W g c ⟨now, held, sip, stl, false, over, (fails + 1), (readyP time bo), awaited⟩ ∧ Only (One g) w W) ⟨H5.out.1.only ((Only.refl Nil w5).drewN nq) id, H5.out.2.drewN nq⟩ ?_
        clear c7 ca H5
        intro w6 h6
        have c9 := h6.1.cAwaited
        have f9 := h6.1.free 53
        have HT := Lib.hid (And.intro (h6.1.pAwaited 7) (h6.2.setCell (p := ⟨g, 53, none⟩) (.inl (One.self g)) (.int .i64 7)))
        clear h6
        go_wp2
        all_goals go_ret
        all_goals exact ⟨by rw [HP.out]; rfl, by rw [HP.out]; exact HT.out.1, HT.out.2⟩
      · have HP := Lib.hid (show failP c ⟨now, held, sip, stl, under, over, fails, ready, awaited⟩ ⟨kind, time, ip, till, 7, len, a, cap, data⟩ = (0, ⟨now, held, sip, stl, false, over, (fails + 1), (readyP time bo), awaited⟩) by simp [failP, failBad, HBO.out, hat, hm])
        have hab : (fails + 1 == c.att) = false := by simp [hat]
        go_quiet (fail)
        go_wp2
        all_goals go_ret
        all_goals exact ⟨by rw [HP.out]; rfl, by rw [HP.out]; exact H5.out.1, H5.out.2.drewN _⟩
  · have heb : (why == 7) = false := by simp [he]
    have hec : (why != 7) = true := by simp [he]
    cases under
    · have HP := Lib.hid (show failP c ⟨now, held, sip, stl, false, over, fails, ready, awaited⟩ ⟨kind, time, ip, till, why, len, a, cap, data⟩ = (10, ⟨now, held, sip, stl, false, over, fails, ready, awaited⟩) by simp [failP, failBad, he])
      go_wp2
      go_ret
      exact ⟨by rw [HP.out]; rfl, by rw [HP.out]; exact H1.out.1, H1.out.2.1⟩
    · go_upto_region 7 with fail
      refine wp_gen (fun W => LkAt W g c ⟨now, held, sip, stl, true, over, fails, ready, awaited⟩ ∧ Only (One g) w W ∧ Blk W b 48 [.int .i64 kind, .int .i64 time, .int .u32 ip, .int .i64 till, .int .i64 why, .int .i64 len, .slice a data.length cap]) H1.out ?_
      clear e1 e4 c5 H1
      intro w2 h2
      have c5 := h2.1.cUnder
      have c7 := h2.1.cFails
      have f5 := h2.1.free 49
      have HT := Lib.hid (And.intro (h2.1.pUnder false) (And.intro (h2.2.1.setCell (p := ⟨g, 49, none⟩) (.inl (One.self g)) (.bool false)) (h2.2.2.far (p := ⟨g, 49, none⟩) hne (.bool false))))
      clear h2
      go_upto_region 8 with fail
      refine wp_gen (fun W => LkAt W g c ⟨now, held, sip, stl, false, over, fails, ready, awaited⟩ ∧ Only (One g) w W ∧ Blk W b 48 [.int .i64 kind, .int .i64 time, .int .u32 ip, .int .i64 till, .int .i64 why, .int .i64 len, .slice a data.length cap]) HT.out ?_
      clear c5 c7 f5 HT
      intro w3 h3
      have c7 := h3.1.cFails
      have f7 := h3.1.free 51
      have HT := Lib.hid (And.intro (h3.1.pFails (fails + 1)) (And.intro (h3.2.1.setCell (p := ⟨g, 51, none⟩) (.inl (One.self g)) (.int .i64 (fails + 1))) (h3.2.2.far (p := ⟨g, 51, none⟩) hne (.int .i64 (fails + 1)))))
      clear h3
      go_upto_region 9 with fail
      obtain ⟨hbk, hb0, hb1⟩ := backoff_eq fails hf0
      rw [hbk]
      clear hbk
      obtain ⟨bo, hbo⟩ : ∃ b, backoff fails = b := ⟨_, rfl⟩
      have HBO := Lib.hid hbo
      rw [hbo] at hb0 hb1 ⊢
      clear hbo
      go_upto_region 10 with fail
      refine wp_gen (fun W => LkAt W g c ⟨now, held, sip, stl, false, over, (fails + 1), ready, awaited⟩ ∧ Only (One g) w W ∧ Blk W b 48 [.int .i64 kind, .int .i64 time, .int .u32 ip, .int .i64 till, .int .i64 why, .int .i64 len, .slice a data.length cap]) HT.out ?_
      clear c7 f7 HT
      intro w4 h4
      have c8 := h4.1.cReady
      have f8 := h4.1.free 52
      have e1 : w4.cell? ⟨b, 1, none⟩ = some (.int .i64 time) := h4.2.2.cell 1
      have HT := Lib.hid (And.intro (h4.1.pReady (readyP time bo)) (h4.2.1.setCell (p := ⟨g, 52, none⟩) (.inl (One.self g)) (.int .i64 (readyP time bo))))
      clear h4
      have hd := Int.tdiv_eq_ediv_of_nonneg (b := 4) hb0
      go_upto_region 11 with fail
      refine wp_gen (fun W => LkAt W g c ⟨now, held, sip, stl, false, over, (fails + 1), (readyP time bo), awaited⟩ ∧ Only (One g) w W) HT.out ?_
      clear c8 f8 e1 hd HT
      intro w5 h5
      have c7 := h5.1.cFails
      have ca := h5.1.cAtt
      have H5 := Lib.hid h5
      clear h5
      by_cases hat : fails + 1 = c.att
      · have HP := Lib.hid (show failP c ⟨now, held, sip, stl, true, over, fails, ready, awaited⟩ ⟨kind, time, ip, till, why, len, a, cap, data⟩ = (0, ⟨now, held, sip, stl, false, over, (fails + 1), (readyP time bo), 7⟩) by simp [failP, failBad, HBO.out, hat, hw1, hw7, he])
        have hab : (fails + 1 == c.att) = true := by simp [hat]
        clear hat
        go_quiet (fail)
        go_upto_region 12 with fail
        refine wp_gen (fun W => LkAt W g c ⟨now, held, sip, stl, false, over, (fails + 1), (readyP time bo), awaited⟩ ∧ Only (One g) w W) ⟨H5.out.1.only ((Only.refl Nil w5).drewN nq) id, H5.out.2.drewN nq⟩ ?_
        clear c7 ca H5
        intro w6 h6
        have c9 := h6.1.cAwaited
        have f9 := h6.1.free 53
        have HT := Lib.hid (And.intro (h6.1.pAwaited 7) (h6.2.setCell (p := ⟨g, 53, none⟩) (.inl (One.self g)) (.int .i64 7)))
        clear h6
        go_wp2
        all_goals go_ret
        all_goals exact ⟨by rw [HP.out]; rfl, by rw [HP.out]; exact HT.out.1, HT.out.2⟩
      · have HP := Lib.hid (show failP c ⟨now, held, sip, stl, true, over, fails, ready, awaited⟩ ⟨kind, time, ip, till, why, len, a, cap, data⟩ = (0, ⟨now, held, sip, stl, false, over, (fails + 1), (readyP time bo), awaited⟩) by simp [failP, failBad, HBO.out, hat, hw1, hw7, he])
        have hab : (fails + 1 == c.att) = false := by simp [hat]
        go_quiet (fail)
        go_wp2
        all_goals go_ret
        all_goals exact ⟨by rw [HP.out]; rfl, by rw [HP.out]; exact H5.out.1, H5.out.2.drewN _⟩
set_option maxHeartbeats 3200000 in
theorem adopt_any (g : Nat) (c : Cfg) (s : Lk) (e : Ev) (w : World) (h : LkAt w g c s) (hi0 : 0 ≤ e.ip) (hi1 : e.ip < 4294967296) : Calls Try.prog 50 #[.pointer (some ⟨g, 0, none⟩), e.v] w (After w g c (adoptP s e)) := by
  obtain ⟨h1, h2, h3⟩ := boxed h e
  unfold Ev.cells at h1 h2 h3
  have hne : w.heap.size ≠ g := by have := h.lt; omega
  obtain ⟨kind, time, ip, till, why, len, a, cap, data⟩ := e
  unfold Ev.v
  obtain ⟨b, hb⟩ : ∃ b, w.heap.size = b := ⟨_, rfl⟩
  rw [hb] at h3 hne
  clear h
  have PRE := Lib.hid (And.intro h1 (And.intro h2 h3))
  obtain ⟨now, held, sip, stl, under, over, fails, ready, awaited⟩ := s
  go_enter Try.func50, Try.ntmps50
  go_upto_region 1 with fail
  (try rw [hb])
  clear h1 h2 h3 hb
  refine wp_gen (fun W => LkAt W g c ⟨now, held, sip, stl, under, over, fails, ready, awaited⟩ ∧ Only (One g) w W ∧ Blk W b 48 [.int .i64 kind, .int .i64 time, .int .u32 ip, .int .i64 till, .int .i64 why, .int .i64 len, .slice a data.length cap]) PRE.out ?_
  clear PRE
  intro w1 h1
  have H1 := Lib.hid h1
  have e1 : w1.cell? ⟨b, 1, none⟩ = some (.int .i64 time) := h1.2.2.cell 1
  have e2 : w1.cell? ⟨b, 2, none⟩ = some (.int .u32 ip) := h1.2.2.cell 2
  have e3 : w1.cell? ⟨b, 3, none⟩ = some (.int .i64 till) := h1.2.2.cell 3
  have c2 := h1.1.cHeld
  have c3 := h1.1.cIp
  clear h1
  cases hh : hostP ip
  · have HP := Lib.hid (show adoptP ⟨now, held, sip, stl, under, over, fails, ready, awaited⟩ ⟨kind, time, ip, till, why, len, a, cap, data⟩ = (7, ⟨now, held, sip, stl, under, over, fails, ready, awaited⟩) by simp [adoptP, adoptBad, hh])
    go_quiet ((go_at_call 60; exact Calls.quiet_of_same (host_is ip _ hh _)))
    go_wp2
    go_ret
    exact ⟨by rw [HP.out]; rfl, by rw [HP.out]; exact H1.out.1, H1.out.2.1.drewN _⟩
  · by_cases ht : till = -1
    · subst ht
      cases held
      · have HP := Lib.hid (show adoptP ⟨now, false, sip, stl, under, over, fails, ready, awaited⟩ ⟨kind, time, ip, (-1), why, len, a, cap, data⟩ = (0, ⟨now, true, ip, (-1), under, over, fails, ready, awaited⟩) by simp [adoptP, adoptBad, hh])
        go_quiet ((go_at_call 60; exact Calls.quiet_of_same (host_is ip _ hh _)))
        go_upto_region 3 with fail
        refine wp_gen (fun W => LkAt W g c ⟨now, false, sip, stl, under, over, fails, ready, awaited⟩ ∧ Only (One g) w W ∧ Blk W b 48 [.int .i64 kind, .int .i64 time, .int .u32 ip, .int .i64 (-1), .int .i64 why, .int .i64 len, .slice a data.length cap]) ⟨H1.out.1.only ((Only.refl Nil w1).drewN nq) id, H1.out.2.1.drewN nq, H1.out.2.2⟩ ?_
        clear H1 e1 e2 e3 c2 c3
        intro w2 h2
        have e2 : w2.cell? ⟨b, 2, none⟩ = some (.int .u32 ip) := h2.2.2.cell 2
        have e3 : w2.cell? ⟨b, 3, none⟩ = some (.int .i64 (-1)) := h2.2.2.cell 3
        have c2 := h2.1.cHeld
        have c3 := h2.1.cIp
        have c4 := h2.1.cTill
        have f2 := h2.1.free 46
        have f3 := h2.1.free 47
        have f4 := h2.1.free 48
        have HT := Lib.hid (And.intro (((h2.1.pHeld true).pIp ip).pTill (-1)) (((h2.2.1.setCell (p := ⟨g, 46, none⟩) (.inl (One.self g)) (.bool true)).setCell (p := ⟨g, 47, none⟩) (.inl (One.self g)) (.int .u32 ip)).setCell (p := ⟨g, 48, none⟩) (.inl (One.self g)) (.int .i64 (-1))))
        clear h2
        go_region
        go_wp2
        go_ret
        exact ⟨by rw [HP.out]; rfl, by rw [HP.out]; exact HT.out.1.only ((Only.refl Nil _).drew) id, HT.out.2.drew⟩
      · by_cases hi : sip = ip
        · have hi2 := hi.symm
          subst hi2
          have HP := Lib.hid (show adoptP ⟨now, true, ip, stl, under, over, fails, ready, awaited⟩ ⟨kind, time, ip, (-1), why, len, a, cap, data⟩ = (0, ⟨now, true, ip, (-1), under, over, fails, ready, awaited⟩) by simp [adoptP, adoptBad, hh])
          go_quiet ((go_at_call 60; exact Calls.quiet_of_same (host_is ip _ hh _)))
          go_upto_region 3 with fail
          refine wp_gen (fun W => LkAt W g c ⟨now, true, ip, stl, under, over, fails, ready, awaited⟩ ∧ Only (One g) w W ∧ Blk W b 48 [.int .i64 kind, .int .i64 time, .int .u32 ip, .int .i64 (-1), .int .i64 why, .int .i64 len, .slice a data.length cap]) ⟨H1.out.1.only ((Only.refl Nil w1).drewN nq) id, H1.out.2.1.drewN nq, H1.out.2.2⟩ ?_
          clear H1 e1 e2 e3 c2 c3
          intro w2 h2
          have e2 : w2.cell? ⟨b, 2, none⟩ = some (.int .u32 ip) := h2.2.2.cell 2
          have e3 : w2.cell? ⟨b, 3, none⟩ = some (.int .i64 (-1)) := h2.2.2.cell 3
          have c2 := h2.1.cHeld
          have c3 := h2.1.cIp
          have c4 := h2.1.cTill
          have f2 := h2.1.free 46
          have f3 := h2.1.free 47
          have f4 := h2.1.free 48
          have HT := Lib.hid (And.intro (((h2.1.pHeld true).pIp ip).pTill (-1)) (((h2.2.1.setCell (p := ⟨g, 46, none⟩) (.inl (One.self g)) (.bool true)).setCell (p := ⟨g, 47, none⟩) (.inl (One.self g)) (.int .u32 ip)).setCell (p := ⟨g, 48, none⟩) (.inl (One.self g)) (.int .i64 (-1))))
          clear h2
          go_region
          go_wp2
          go_ret
          exact ⟨by rw [HP.out]; rfl, by rw [HP.out]; exact HT.out.1.only ((Only.refl Nil _).drew) id, HT.out.2.drew⟩
        · have hib : (sip != ip) = true := by simp [hi]
          have HP := Lib.hid (show adoptP ⟨now, true, sip, stl, under, over, fails, ready, awaited⟩ ⟨kind, time, ip, (-1), why, len, a, cap, data⟩ = (7, ⟨now, true, sip, stl, under, over, fails, ready, awaited⟩) by simp [adoptP, adoptBad, hh, hi])
          go_quiet ((go_at_call 60; exact Calls.quiet_of_same (host_is ip _ hh _)))
          go_wp2
          go_ret
          exact ⟨by rw [HP.out]; rfl, by rw [HP.out]; exact H1.out.1, H1.out.2.1.drewN _⟩
    · have htb : (till != -1) = true := by simp [ht]
      by_cases h1 : till ≤ time
      · have HP := Lib.hid (show adoptP ⟨now, held, sip, stl, under, over, fails, ready, awaited⟩ ⟨kind, time, ip, till, why, len, a, cap, data⟩ = (7, ⟨now, held, sip, stl, under, over, fails, ready, awaited⟩) by simp [adoptP, adoptBad, hh, ht, h1])
        go_quiet ((go_at_call 60; exact Calls.quiet_of_same (host_is ip _ hh _)))
        go_wp2
        go_ret
        exact ⟨by rw [HP.out]; rfl, by rw [HP.out]; exact H1.out.1, H1.out.2.1.drewN _⟩
      · by_cases h2 : 1125899906842624 < till
        · have HP := Lib.hid (show adoptP ⟨now, held, sip, stl, under, over, fails, ready, awaited⟩ ⟨kind, time, ip, till, why, len, a, cap, data⟩ = (7, ⟨now, held, sip, stl, under, over, fails, ready, awaited⟩) by simp [adoptP, adoptBad, hh, ht, h2])
          go_quiet ((go_at_call 60; exact Calls.quiet_of_same (host_is ip _ hh _)))
          go_wp2
          go_ret
          exact ⟨by rw [HP.out]; rfl, by rw [HP.out]; exact H1.out.1, H1.out.2.1.drewN _⟩
        · have h1' : decide (till ≤ time) = false := by simp [h1]
          have h2' : decide (1125899906842624 < till) = false := by simp [h2]
          cases held
          · have HP := Lib.hid (show adoptP ⟨now, false, sip, stl, under, over, fails, ready, awaited⟩ ⟨kind, time, ip, till, why, len, a, cap, data⟩ = (0, ⟨now, true, ip, till, under, over, fails, ready, awaited⟩) by simp [adoptP, adoptBad, hh, ht, h1, h2])
            go_quiet ((go_at_call 60; exact Calls.quiet_of_same (host_is ip _ hh _)))
            go_upto_region 3 with fail
            refine wp_gen (fun W => LkAt W g c ⟨now, false, sip, stl, under, over, fails, ready, awaited⟩ ∧ Only (One g) w W ∧ Blk W b 48 [.int .i64 kind, .int .i64 time, .int .u32 ip, .int .i64 till, .int .i64 why, .int .i64 len, .slice a data.length cap]) ⟨H1.out.1.only ((Only.refl Nil w1).drewN nq) id, H1.out.2.1.drewN nq, H1.out.2.2⟩ ?_
            clear H1 e1 e2 e3 c2 c3
            intro w2 h2
            have e2 : w2.cell? ⟨b, 2, none⟩ = some (.int .u32 ip) := h2.2.2.cell 2
            have e3 : w2.cell? ⟨b, 3, none⟩ = some (.int .i64 till) := h2.2.2.cell 3
            have c2 := h2.1.cHeld
            have c3 := h2.1.cIp
            have c4 := h2.1.cTill
            have f2 := h2.1.free 46
            have f3 := h2.1.free 47
            have f4 := h2.1.free 48
            have HT := Lib.hid (And.intro (((h2.1.pHeld true).pIp ip).pTill till) (((h2.2.1.setCell (p := ⟨g, 46, none⟩) (.inl (One.self g)) (.bool true)).setCell (p := ⟨g, 47, none⟩) (.inl (One.self g)) (.int .u32 ip)).setCell (p := ⟨g, 48, none⟩) (.inl (One.self g)) (.int .i64 till)))
            clear h2
            go_region
            go_wp2
            go_ret
            exact ⟨by rw [HP.out]; rfl, by rw [HP.out]; exact HT.out.1.only ((Only.refl Nil _).drew) id, HT.out.2.drew⟩
          · by_cases hi : sip = ip
            · have hi2 := hi.symm
              subst hi2
              have HP := Lib.hid (show adoptP ⟨now, true, ip, stl, under, over, fails, ready, awaited⟩ ⟨kind, time, ip, till, why, len, a, cap, data⟩ = (0, ⟨now, true, ip, till, under, over, fails, ready, awaited⟩) by simp [adoptP, adoptBad, hh, ht, h1, h2])
              go_quiet ((go_at_call 60; exact Calls.quiet_of_same (host_is ip _ hh _)))
              go_upto_region 3 with fail
              refine wp_gen (fun W => LkAt W g c ⟨now, true, ip, stl, under, over, fails, ready, awaited⟩ ∧ Only (One g) w W ∧ Blk W b 48 [.int .i64 kind, .int .i64 time, .int .u32 ip, .int .i64 till, .int .i64 why, .int .i64 len, .slice a data.length cap]) ⟨H1.out.1.only ((Only.refl Nil w1).drewN nq) id, H1.out.2.1.drewN nq, H1.out.2.2⟩ ?_
              clear H1 e1 e2 e3 c2 c3
              intro w2 h2
              have e2 : w2.cell? ⟨b, 2, none⟩ = some (.int .u32 ip) := h2.2.2.cell 2
              have e3 : w2.cell? ⟨b, 3, none⟩ = some (.int .i64 till) := h2.2.2.cell 3
              have c2 := h2.1.cHeld
              have c3 := h2.1.cIp
              have c4 := h2.1.cTill
              have f2 := h2.1.free 46
              have f3 := h2.1.free 47
              have f4 := h2.1.free 48
              have HT := Lib.hid (And.intro (((h2.1.pHeld true).pIp ip).pTill till) (((h2.2.1.setCell (p := ⟨g, 46, none⟩) (.inl (One.self g)) (.bool true)).setCell (p := ⟨g, 47, none⟩) (.inl (One.self g)) (.int .u32 ip)).setCell (p := ⟨g, 48, none⟩) (.inl (One.self g)) (.int .i64 till)))
              clear h2
              go_region
              go_wp2
              go_ret
              exact ⟨by rw [HP.out]; rfl, by rw [HP.out]; exact HT.out.1.only ((Only.refl Nil _).drew) id, HT.out.2.drew⟩
            · have hib : (sip != ip) = true := by simp [hi]
              have HP := Lib.hid (show adoptP ⟨now, true, sip, stl, under, over, fails, ready, awaited⟩ ⟨kind, time, ip, till, why, len, a, cap, data⟩ = (7, ⟨now, true, sip, stl, under, over, fails, ready, awaited⟩) by simp [adoptP, adoptBad, hh, ht, h1, h2, hi])
              go_quiet ((go_at_call 60; exact Calls.quiet_of_same (host_is ip _ hh _)))
              go_wp2
              go_ret
              exact ⟨by rw [HP.out]; rfl, by rw [HP.out]; exact H1.out.1, H1.out.2.1.drewN _⟩
end Go.Proofs.Ythoaeolohnalnaa
