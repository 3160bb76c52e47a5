/-
  The simple system of JudgeLets: an attempt fails; the address goes.
-/
import Derived.Test.YthoaeolohnalnaaPc
import Derived.Test.YthoaeolohnalnaaRc
namespace Go.Proofs.Ythoaeolohnalnaa
open Go.RowKit

def evF2 (now why : Int) : Ev := ⟨5, now, 0, 0, why, 0, none, 0, []⟩
def evG (now : Int) : Ev := ⟨7, now, 0, 0, 0, 0, none, 0, []⟩
def evD (now ip : Int) : Ev := ⟨3, now, ip, 0, 0, 0, none, 0, []⟩
def failQ (c : Cfg) (l : List Ev) (s : Py) (why : Int) : List Ev × Py :=
  if s.fails + 1 = c.att then (l ++ [evF2 s.now why] ++ [evG s.now], { s with under := false, fails := s.fails + 1, over := true })
  else (l ++ [evF2 s.now why], { s with under := false, fails := s.fails + 1, ready := readyP s.now (backoff s.fails) })
def dropQ (c : Cfg) (l : List Ev) (s : Py) : List Ev × Py :=
  if s.under = true then failQ c (l ++ [evD s.now s.ip]) { s with held := false } 6 else (l ++ [evD s.now s.ip], { s with held := false })
theorem back_low {f : Int} (h : 4 ≤ f) : backoff f = 800 := by
  unfold backoff
  by_cases h10 : 10 < f
  · rw [if_pos h10]
    decide
  · rw [if_neg h10]
    have hk : f = 4 ∨ f = 5 ∨ f = 6 ∨ f = 7 ∨ f = 8 ∨ f = 9 ∨ f = 10 := by omega
    rcases hk with h | h | h | h | h | h | h <;> rw [h] <;> decide
theorem evB_bare {W : World} {e : Ev} (h0 : 0 ≤ e.ip) (h1 : e.ip < 4294967296) (ha : e.a = none) (hc : e.cap = 0) (hd : e.data = []) : EvB W e := ⟨⟨h0, h1⟩, .inl ⟨ha, hc, hd⟩⟩
theorem evB_zero {W : World} {e : Ev} (hi : e.ip = 0) (ha : e.a = none) (hc : e.cap = 0) (hd : e.data = []) : EvB W e := evB_bare (by rw [hi]; decide) (by rw [hi]; decide) ha hc hd
def PyPost (w : World) (g base : Nat) (c : Cfg) (p : List Ev × Py) (r : Ending) (w' : World) : Prop := r = .returned (.tuple #[]) ∧ (∃ v', PlAt w' g base c v' p.1 p.2) ∧ Fr base w w'
set_option maxHeartbeats 3200000 in
set_option maxRecDepth 100000 in
theorem pfail_any (g base : Nat) (c : Cfg) (v : Value) (l : List Ev) (s : Py) (why : Int) (w : World) (h : PlAt w g base c v l s) (hn : l.length ≤ 999999990) (hf0 : 0 ≤ s.fails) (hf1 : s.fails ≤ 1000000000) (ht0 : 0 ≤ s.now) (ht1 : s.now ≤ 1125899906842624) :
    Calls Try.prog 33 #[.pointer (some ⟨g, 0, none⟩), .int .i64 why] w (PyPost w g base c (failQ c l s why)) := by
  have HP := Lib.hid h
  have hlow := h.low
  have HQ := Lib.hid (show failQ c l s why = if s.fails + 1 = c.att then (l ++ [evF2 s.now why] ++ [evG s.now], { s with under := false, fails := s.fails + 1, over := true })
    else (l ++ [evF2 s.now why], { s with under := false, fails := s.fails + 1, ready := readyP s.now (backoff s.fails) }) from rfl)
  generalize failQ c l s why = fq at *
  clear h
  obtain ⟨now, fails, ip, till, held, under, over, ready⟩ := s
  simp only at hf0 hf1 ht0 ht1 HQ
  go_enter Try.func33, Try.ntmps33
  have hadd := fun (w : World) (h : PlAt w g base c v l ⟨now, fails, ip, till, held, under, over, ready⟩) => add_any g base c v l _ ⟨5, 0, 0, 0, why, 0, none, 0, []⟩ w h (evB_zero rfl rfl rfl rfl) (by omega)
  unfold Ev.v at hadd
  have HAdd := Lib.hid hadd
  clear hadd
  go_upto_region 1 with (go_at_call 32; refine (HAdd.out _ HP.out).mono ?_; rintro r w2 ⟨rfl, ⟨v2, hp2⟩, ho2⟩)
  refine wp_gen (fun W => PlAt W g base c v2 (l ++ [evF2 now why]) ⟨now, fails, ip, till, held, under, over, ready⟩ ∧ Fr base w W) ⟨hp2, ho2⟩ ?_
  clear hp2 ho2 HAdd HP
  intro w3 h3
  have c0 := h3.1.cUnder
  have z0 := h3.1.free 51
  have c1 := h3.1.cFails
  have z1 := h3.1.free 47
  have HF := Lib.hid (show _ ∧ _ from And.intro ((h3.1.pUnder false).pFails (fails + 1)) (show Fr base w ((w3.setCell ⟨g, 51, none⟩ (.bool false)).setCell ⟨g, 47, none⟩ (.int .i64 (fails + 1))) from (h3.1.pUnder false).frSet (h3.1.frSet h3.2 51 _) 47 _))
  clear h3
  simp only at HF c0 c1
  go_upto_region 3 with fail
  refine wp_gen (fun W => PlAt W g base c v2 (l ++ [evF2 now why]) ⟨now, fails + 1, ip, till, held, false, over, ready⟩ ∧ Fr base w W) HF.out ?_
  clear c0 z0 c1 z1 HF
  intro w3 h3
  have c1 := h3.1.cFails
  have ca := h3.1.cAtt
  have H3 := Lib.hid h3
  clear h3
  simp only at c1
  by_cases hat : fails + 1 = c.att
  · have HP := Lib.hid (show fq = (l ++ [evF2 now why] ++ [evG now], ⟨now, fails + 1, ip, till, held, false, true, ready⟩) by rw [HQ.out, if_pos hat])
    have hab : (fails + 1 == c.att) = true := by simp [hat]
    have hadd := fun (w : World) (h : PlAt w g base c v2 (l ++ [evF2 now why]) ⟨now, fails + 1, ip, till, held, false, over, ready⟩) => add_any g base c v2 _ _ ⟨7, 0, 0, 0, 0, 0, none, 0, []⟩ w h (evB_zero rfl rfl rfl rfl) (by rw [List.length_append, List.length_singleton]; omega)
    unfold Ev.v at hadd
    have HAdd := Lib.hid hadd
    clear hat HQ hadd
    go_quiet (fail)
    have HH := Lib.hid (And.intro (H3.out.1.nil ((Only.refl Nil w3).drewN nq)) (H3.out.2.drewN nq))
    clear H3 c1 ca
    go_upto_region 5 with (go_at_call 32; refine (HAdd.out _ HH.out.1).mono ?_; rintro r w4 ⟨rfl, ⟨v4, hp4⟩, ho4⟩)
    have c2 := hp4.cOver
    have z2 := hp4.free 52
    have HF := Lib.hid (show _ ∧ _ from And.intro (hp4.pOver true) (show Fr base w (w4.setCell ⟨g, 52, none⟩ (.bool true)) from hp4.frSet (HH.out.2.then ho4) 52 _))
    clear hp4 ho4 HAdd HH
    simp only at c2
    go_wp2
    refine bodyPost_ret (results_none rfl _ _ _) rfl ?_
    rw [HP.out]
    exact ⟨rfl, ⟨_, HF.out.1⟩, HF.out.2⟩
  · have HP := Lib.hid (show fq = (l ++ [evF2 now why], ⟨now, fails + 1, ip, till, held, false, over, readyP now (backoff fails)⟩) by rw [HQ.out, if_neg hat])
    have hab : (fails + 1 == c.att) = false := by simp [hat]
    clear hat HQ
    go_quiet (fail)
    have hh := And.intro (H3.out.1.nil ((Only.refl Nil w3).drewN nq)) (H3.out.2.drewN nq)
    clear H3 c1 ca hab
    generalize w3.drewN nq = w4 at *
    have c1 := hh.1.cFails
    have c2 := hh.1.cReady
    have c3 := hh.1.cNow
    have z2 := hh.1.free 53
    have HF := Lib.hid (show ∀ x, PlAt (w4.setCell ⟨g, 53, none⟩ (.int .i64 x)) g base c v2 (l ++ [evF2 now why]) ⟨now, fails + 1, ip, till, held, false, over, x⟩ ∧ Fr base w (w4.setCell ⟨g, 53, none⟩ (.int .i64 x)) from fun x => ⟨hh.1.pReady x, hh.1.frSet hh.2 53 _⟩)
    clear hh
    simp only at c1 c2 c3
    go_upto_region 8 with fail
    go_loopw [4, 5] (fun b i wr => ((i = .int .i64 1 ∧ b = .int .i64 50) ∨ (i = .int .i64 2 ∧ b = .int .i64 100 ∧ 1 ≤ fails) ∨ (i = .int .i64 3 ∧ b = .int .i64 200 ∧ 2 ≤ fails) ∨ (i = .int .i64 4 ∧ b = .int .i64 400 ∧ 3 ≤ fails) ∨ (i = .int .i64 5 ∧ b = .int .i64 800 ∧ 4 ≤ fails)) ∧ w4 = wr) (fun _ i _ => 6 - (intOf i).toNat)
    case atStart => exact ⟨.inl ⟨rfl, rfl⟩, rfl⟩
    case round =>
      obtain ⟨h5, rfl⟩ := hrel
      rcases h5 with ⟨rfl, rfl⟩ | ⟨rfl, rfl, hn2⟩ | ⟨rfl, rfl, hn2⟩ | ⟨rfl, rfl, hn2⟩ | ⟨rfl, rfl, hn2⟩
      · by_cases hj : 0 < fails
        · have hj2 : 1 < fails + 1 := by omega
          go_wp2
          go_roundw
          case rel => exact ⟨.inr (.inl ⟨rfl, rfl, by omega⟩), trivial⟩
          case measure => simp [intOf]
        · have hj2 : ¬ 1 < fails + 1 := by omega
          have hbk : backoff fails = 50 := by rw [show fails = 0 by omega]; decide
          have hr : readyP now (backoff fails) = if 1125899906842624 < now + 50 - 12 then 1125899906842624 else now + 50 - 12 := by rw [hbk]; rfl
          by_cases hm : 1125899906842624 < now + 50 - 12
          · have HR := Lib.hid (hr.trans (if_pos hm))
            clear hr hbk hj
            go_wp2
            go_end0
            exact ⟨rfl, ⟨_, by rw [HP.out, HR.out]; exact (HF.out _).1⟩, (HF.out _).2⟩
          · have HR := Lib.hid (hr.trans (if_neg hm))
            clear hr hbk hj
            go_wp2
            go_end0
            exact ⟨rfl, ⟨_, by rw [HP.out, HR.out]; exact (HF.out _).1⟩, (HF.out _).2⟩
      · by_cases hj : 1 < fails
        · have hj2 : 2 < fails + 1 := by omega
          go_wp2
          go_roundw
          case rel => exact ⟨.inr (.inr (.inl ⟨rfl, rfl, by omega⟩)), trivial⟩
          case measure => simp [intOf]
        · have hj2 : ¬ 2 < fails + 1 := by omega
          have hbk : backoff fails = 100 := by rw [show fails = 1 by omega]; decide
          have hr : readyP now (backoff fails) = if 1125899906842624 < now + 100 - 25 then 1125899906842624 else now + 100 - 25 := by rw [hbk]; rfl
          by_cases hm : 1125899906842624 < now + 100 - 25
          · have HR := Lib.hid (hr.trans (if_pos hm))
            clear hr hbk hj
            go_wp2
            go_end0
            exact ⟨rfl, ⟨_, by rw [HP.out, HR.out]; exact (HF.out _).1⟩, (HF.out _).2⟩
          · have HR := Lib.hid (hr.trans (if_neg hm))
            clear hr hbk hj
            go_wp2
            go_end0
            exact ⟨rfl, ⟨_, by rw [HP.out, HR.out]; exact (HF.out _).1⟩, (HF.out _).2⟩
      · by_cases hj : 2 < fails
        · have hj2 : 3 < fails + 1 := by omega
          go_wp2
          go_roundw
          case rel => exact ⟨.inr (.inr (.inr (.inl ⟨rfl, rfl, by omega⟩))), trivial⟩
          case measure => simp [intOf]
        · have hj2 : ¬ 3 < fails + 1 := by omega
          have hbk : backoff fails = 200 := by rw [show fails = 2 by omega]; decide
          have hr : readyP now (backoff fails) = if 1125899906842624 < now + 200 - 50 then 1125899906842624 else now + 200 - 50 := by rw [hbk]; rfl
          by_cases hm : 1125899906842624 < now + 200 - 50
          · have HR := Lib.hid (hr.trans (if_pos hm))
            clear hr hbk hj
            go_wp2
            go_end0
            exact ⟨rfl, ⟨_, by rw [HP.out, HR.out]; exact (HF.out _).1⟩, (HF.out _).2⟩
          · have HR := Lib.hid (hr.trans (if_neg hm))
            clear hr hbk hj
            go_wp2
            go_end0
            exact ⟨rfl, ⟨_, by rw [HP.out, HR.out]; exact (HF.out _).1⟩, (HF.out _).2⟩
      · by_cases hj : 3 < fails
        · have hj2 : 4 < fails + 1 := by omega
          go_wp2
          go_roundw
          case rel => exact ⟨.inr (.inr (.inr (.inr ⟨rfl, rfl, by omega⟩))), trivial⟩
          case measure => simp [intOf]
        · have hj2 : ¬ 4 < fails + 1 := by omega
          have hbk : backoff fails = 400 := by rw [show fails = 3 by omega]; decide
          have hr : readyP now (backoff fails) = if 1125899906842624 < now + 400 - 100 then 1125899906842624 else now + 400 - 100 := by rw [hbk]; rfl
          by_cases hm : 1125899906842624 < now + 400 - 100
          · have HR := Lib.hid (hr.trans (if_pos hm))
            clear hr hbk hj
            go_wp2
            go_end0
            exact ⟨rfl, ⟨_, by rw [HP.out, HR.out]; exact (HF.out _).1⟩, (HF.out _).2⟩
          · have HR := Lib.hid (hr.trans (if_neg hm))
            clear hr hbk hj
            go_wp2
            go_end0
            exact ⟨rfl, ⟨_, by rw [HP.out, HR.out]; exact (HF.out _).1⟩, (HF.out _).2⟩
      · have hj := True.intro
        by_cases hj2 : 5 < fails + 1
        · have hbk : backoff fails = 800 := by exact back_low hn2
          have hr : readyP now (backoff fails) = if 1125899906842624 < now + 800 - 200 then 1125899906842624 else now + 800 - 200 := by rw [hbk]; rfl
          by_cases hm : 1125899906842624 < now + 800 - 200
          · have HR := Lib.hid (hr.trans (if_pos hm))
            clear hr hbk hj
            go_wp2
            go_end0
            exact ⟨rfl, ⟨_, by rw [HP.out, HR.out]; exact (HF.out _).1⟩, (HF.out _).2⟩
          · have HR := Lib.hid (hr.trans (if_neg hm))
            clear hr hbk hj
            go_wp2
            go_end0
            exact ⟨rfl, ⟨_, by rw [HP.out, HR.out]; exact (HF.out _).1⟩, (HF.out _).2⟩
        · have hbk : backoff fails = 800 := by exact back_low hn2
          have hr : readyP now (backoff fails) = if 1125899906842624 < now + 800 - 200 then 1125899906842624 else now + 800 - 200 := by rw [hbk]; rfl
          by_cases hm : 1125899906842624 < now + 800 - 200
          · have HR := Lib.hid (hr.trans (if_pos hm))
            clear hr hbk hj
            go_wp2
            go_end0
            exact ⟨rfl, ⟨_, by rw [HP.out, HR.out]; exact (HF.out _).1⟩, (HF.out _).2⟩
          · have HR := Lib.hid (hr.trans (if_neg hm))
            clear hr hbk hj
            go_wp2
            go_end0
            exact ⟨rfl, ⟨_, by rw [HP.out, HR.out]; exact (HF.out _).1⟩, (HF.out _).2⟩
set_option maxHeartbeats 3200000 in
set_option maxRecDepth 100000 in
theorem pdrop_any (g base : Nat) (c : Cfg) (v : Value) (l : List Ev) (s : Py) (w : World) (h : PlAt w g base c v l s) (hn : l.length ≤ 999999980) (hf0 : 0 ≤ s.fails) (hf1 : s.fails ≤ 1000000000) (ht0 : 0 ≤ s.now) (ht1 : s.now ≤ 1125899906842624) (hi0 : 0 ≤ s.ip) (hi1 : s.ip < 4294967296) :
    Calls Try.prog 29 #[.pointer (some ⟨g, 0, none⟩)] w (PyPost w g base c (dropQ c l s)) := by
  have HP := Lib.hid h
  have hlow := h.low
  have HQ := Lib.hid (show dropQ c l s = if s.under = true then failQ c (l ++ [evD s.now s.ip]) { s with held := false } 6 else (l ++ [evD s.now s.ip], { s with held := false }) from rfl)
  generalize dropQ c l s = fq at *
  clear h
  obtain ⟨now, fails, ip, till, held, under, over, ready⟩ := s
  simp only at hf0 hf1 ht0 ht1 HQ hi0 hi1
  have hadd := fun (w : World) (h : PlAt w g base c v l ⟨now, fails, ip, till, held, under, over, ready⟩) => add_any g base c v l _ ⟨3, 0, ip, 0, 0, 0, none, 0, []⟩ w h (evB_bare hi0 hi1 rfl rfl rfl) (by omega)
  unfold Ev.v at hadd
  have HAdd := Lib.hid hadd
  clear hadd
  have c0 := HP.out.cIp
  simp only at c0
  go_enter Try.func29, Try.ntmps29
  go_upto_region 1 with (go_at_call 32; refine (HAdd.out _ HP.out).mono ?_; rintro r w2 ⟨rfl, ⟨v2, hp2⟩, ho2⟩)
  clear HP HAdd c0
  have c1 := hp2.cHeld
  have z1 := hp2.free 50
  have hp3 := hp2.pHeld false
  have c2 := hp3.cUnder
  have HF := Lib.hid (And.intro hp3 (show Fr base w (w2.setCell ⟨g, 50, none⟩ (.bool false)) from hp2.frSet ho2 50 _))
  clear hp2 hp3 ho2
  simp only at c1 c2
  cases under
  · have HX := Lib.hid (show fq = (l ++ [evD now ip], ⟨now, fails, ip, till, false, false, over, ready⟩) by rw [HQ.out]; simp)
    clear HQ
    go_wp2
    go_end0
    exact ⟨rfl, ⟨_, by rw [HX.out]; exact HF.out.1⟩, HF.out.2⟩
  · have HX := Lib.hid (show fq = failQ c (l ++ [evD now ip]) ⟨now, fails, ip, till, false, true, over, ready⟩ 6 by rw [HQ.out]; simp)
    have HC := Lib.hid (pfail_any g base c v2 _ _ 6 _ HF.out.1 (by rw [List.length_append, List.length_singleton]; omega) hf0 hf1 ht0 ht1)
    clear HQ
    go_wp2_with (go_at_call 33; refine HC.out.mono ?_; rintro r w4 ⟨rfl, ⟨v4, hp4⟩, ho4⟩)
    go_end0
    exact ⟨rfl, ⟨_, by rw [HX.out]; exact hp4⟩, HF.out.2.then ho4⟩
end Go.Proofs.Ythoaeolohnalnaa
