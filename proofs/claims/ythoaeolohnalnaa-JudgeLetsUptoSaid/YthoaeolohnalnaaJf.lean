/-
  Whether an event is the one that is awaited; the map of the rules; the judge's question of one event.
-/
import Derived.Test.YthoaeolohnalnaaJd
import Derived.Test.YthoaeolohnalnaaJe
namespace Go.Proofs.Ythoaeolohnalnaa
open Go.RowKit

set_option maxHeartbeats 3200000 in
theorem right_any (g : Nat) (c : Cfg) (s : Lk) (e : Ev) (w : World) (h : LkAt w g c s) : Calls Try.prog 41 #[.pointer (some ⟨g, 0, none⟩), e.v] w fun r w' => r = .returned (.bool (rightP s e)) ∧ Only Nil w w' := by
  obtain ⟨kind, time, ip, till, why, len, a, cap, data⟩ := e
  unfold Ev.v
  obtain ⟨b, hbw⟩ : ∃ b, w.heap.size = b := ⟨_, rfl⟩
  have PRE := Lib.hid (show LkAt (w.alloc (.cells #[.int .i64 kind, .int .i64 time, .int .u32 ip, .int .i64 till, .int .i64 why, .int .i64 len, .slice a data.length cap] 48)) g c s ∧ Only Nil w (w.alloc (.cells #[.int .i64 kind, .int .i64 time, .int .u32 ip, .int .i64 till, .int .i64 why, .int .i64 len, .slice a data.length cap] 48)) ∧ Blk (w.alloc (.cells #[.int .i64 kind, .int .i64 time, .int .u32 ip, .int .i64 till, .int .i64 why, .int .i64 len, .slice a data.length cap] 48)) b 48 [.int .i64 kind, .int .i64 time, .int .u32 ip, .int .i64 till, .int .i64 why, .int .i64 len, .slice a data.length cap] from
    ⟨h.only ((Only.refl Nil w).alloc _) id, (Only.refl _ _).alloc _, hbw ▸ Blk.new w _ _⟩)
  obtain ⟨now, held, sip, stl, under, over, fails, ready, awaited⟩ := s
  clear h
  go_enter Try.func41, Try.ntmps41
  go_upto_region 1 with fail
  (try rw [hbw])
  clear hbw
  refine wp_gen (fun W => LkAt W g c ⟨now, held, sip, stl, under, over, fails, ready, awaited⟩ ∧ Only Nil w W ∧ Blk W b 48 [.int .i64 kind, .int .i64 time, .int .u32 ip, .int .i64 till, .int .i64 why, .int .i64 len, .slice a data.length cap]) PRE.out ?_
  clear PRE
  intro w1 h1
  have H1 := Lib.hid h1
  have e0 : w1.cell? ⟨b, 0, none⟩ = some (.int .i64 kind) := h1.2.2.cell 0
  have e1 : w1.cell? ⟨b, 1, none⟩ = some (.int .i64 time) := h1.2.2.cell 1
  have e4 : w1.cell? ⟨b, 4, none⟩ = some (.int .i64 why) := h1.2.2.cell 4
  have c1 := h1.1.cNow
  have c9 := h1.1.cAwaited
  clear h1
  by_cases a5 : awaited = 5
  · have a5b : (awaited == 5) = true := by simp [a5]
    by_cases k5 : kind = 5
    · have k5b : (kind == 5) = true := by simp [k5]
      have k7b : (kind == 7) = false := by simp [k5]
      have k7c : (kind != 7) = true := by simp [k5]
      have k7 : ¬ kind = 7 := by omega
      by_cases y6 : why = 6
      · have y6b : (why == 6) = true := by simp [y6]
        by_cases ht : time = now
        · have htb : (time == now) = true := by simp [ht]
          have HP := Lib.hid (show rightP ⟨now, held, sip, stl, under, over, fails, ready, awaited⟩ ⟨kind, time, ip, till, why, len, a, cap, data⟩ = true by simp [rightP, a5, k5, y6, ht])
          (try clear a5)
          (try clear a7)
          (try clear k5)
          (try clear k7)
          (try clear y6)
          (try clear ht)
          go_upto_region 4 with fail
          go_quiet (fail)
          go_wp2
          all_goals go_ret
          all_goals exact ⟨by rw [HP.out]; rfl, H1.out.2.1.drewN _⟩
        · have htb : (time == now) = false := by simp [ht]
          have HP := Lib.hid (show rightP ⟨now, held, sip, stl, under, over, fails, ready, awaited⟩ ⟨kind, time, ip, till, why, len, a, cap, data⟩ = false by simp [rightP, a5, k5, y6, ht])
          (try clear a5)
          (try clear a7)
          (try clear k5)
          (try clear k7)
          (try clear y6)
          (try clear ht)
          go_upto_region 4 with fail
          go_quiet (fail)
          go_wp2
          all_goals go_ret
          all_goals exact ⟨by rw [HP.out]; rfl, H1.out.2.1.drewN _⟩
      · have y6b : (why == 6) = false := by simp [y6]
        have HP := Lib.hid (show rightP ⟨now, held, sip, stl, under, over, fails, ready, awaited⟩ ⟨kind, time, ip, till, why, len, a, cap, data⟩ = false by simp [rightP, a5, k5, y6])
        (try clear a5)
        (try clear a7)
        (try clear k5)
        (try clear k7)
        (try clear y6)
        (try clear ht)
        go_upto_region 4 with fail
        go_quiet (fail)
        go_wp2
        all_goals go_ret
        all_goals exact ⟨by rw [HP.out]; rfl, H1.out.2.1.drewN _⟩
    · have k5b : (kind == 5) = false := by simp [k5]
      by_cases k7 : kind = 7
      · have k7b : (kind == 7) = true := by simp [k7]
        have k7c : (kind != 7) = false := by simp [k7]
        have HP := Lib.hid (show rightP ⟨now, held, sip, stl, under, over, fails, ready, awaited⟩ ⟨kind, time, ip, till, why, len, a, cap, data⟩ = false by simp [rightP, a5, k7])
        (try clear a5)
        (try clear a7)
        (try clear k5)
        (try clear k7)
        (try clear y6)
        (try clear ht)
        go_upto_region 4 with fail
        go_quiet (fail)
        go_wp2
        all_goals go_ret
        all_goals exact ⟨by rw [HP.out]; rfl, H1.out.2.1.drewN _⟩
      · have k7b : (kind == 7) = false := by simp [k7]
        have k7c : (kind != 7) = true := by simp [k7]
        have HP := Lib.hid (show rightP ⟨now, held, sip, stl, under, over, fails, ready, awaited⟩ ⟨kind, time, ip, till, why, len, a, cap, data⟩ = false by simp [rightP, a5, k5])
        (try clear a5)
        (try clear a7)
        (try clear k5)
        (try clear k7)
        (try clear y6)
        (try clear ht)
        go_upto_region 4 with fail
        go_quiet (fail)
        go_wp2
        all_goals go_ret
        all_goals exact ⟨by rw [HP.out]; rfl, H1.out.2.1.drewN _⟩
  · have a5b : (awaited == 5) = false := by simp [a5]
    by_cases a7 : awaited = 7
    · have a7b : (awaited == 7) = true := by simp [a7]
      by_cases k5 : kind = 5
      · have k5b : (kind == 5) = true := by simp [k5]
        have k7b : (kind == 7) = false := by simp [k5]
        have k7c : (kind != 7) = true := by simp [k5]
        have k7 : ¬ kind = 7 := by omega
        by_cases y6 : why = 6
        · have y6b : (why == 6) = true := by simp [y6]
          have HP := Lib.hid (show rightP ⟨now, held, sip, stl, under, over, fails, ready, awaited⟩ ⟨kind, time, ip, till, why, len, a, cap, data⟩ = false by simp [rightP, a7, k5])
          (try clear a5)
          (try clear a7)
          (try clear k5)
          (try clear k7)
          (try clear y6)
          (try clear ht)
          go_upto_region 6 with fail
          go_quiet (fail)
          go_wp2
          all_goals go_ret
          all_goals exact ⟨by rw [HP.out]; rfl, H1.out.2.1.drewN _⟩
        · have y6b : (why == 6) = false := by simp [y6]
          have HP := Lib.hid (show rightP ⟨now, held, sip, stl, under, over, fails, ready, awaited⟩ ⟨kind, time, ip, till, why, len, a, cap, data⟩ = false by simp [rightP, a7, k5])
          (try clear a5)
          (try clear a7)
          (try clear k5)
          (try clear k7)
          (try clear y6)
          (try clear ht)
          go_upto_region 6 with fail
          go_quiet (fail)
          go_wp2
          all_goals go_ret
          all_goals exact ⟨by rw [HP.out]; rfl, H1.out.2.1.drewN _⟩
      · have k5b : (kind == 5) = false := by simp [k5]
        by_cases k7 : kind = 7
        · have k7b : (kind == 7) = true := by simp [k7]
          have k7c : (kind != 7) = false := by simp [k7]
          by_cases ht : time = now
          · have htb : (time == now) = true := by simp [ht]
            have HP := Lib.hid (show rightP ⟨now, held, sip, stl, under, over, fails, ready, awaited⟩ ⟨kind, time, ip, till, why, len, a, cap, data⟩ = true by simp [rightP, a7, k7, ht])
            (try clear a5)
            (try clear a7)
            (try clear k5)
            (try clear k7)
            (try clear y6)
            (try clear ht)
            go_upto_region 6 with fail
            go_quiet (fail)
            go_wp2
            all_goals go_ret
            all_goals exact ⟨by rw [HP.out]; rfl, H1.out.2.1.drewN _⟩
          · have htb : (time == now) = false := by simp [ht]
            have HP := Lib.hid (show rightP ⟨now, held, sip, stl, under, over, fails, ready, awaited⟩ ⟨kind, time, ip, till, why, len, a, cap, data⟩ = false by simp [rightP, a7, k7, ht])
            (try clear a5)
            (try clear a7)
            (try clear k5)
            (try clear k7)
            (try clear y6)
            (try clear ht)
            go_upto_region 6 with fail
            go_quiet (fail)
            go_wp2
            all_goals go_ret
            all_goals exact ⟨by rw [HP.out]; rfl, H1.out.2.1.drewN _⟩
        · have k7b : (kind == 7) = false := by simp [k7]
          have k7c : (kind != 7) = true := by simp [k7]
          have HP := Lib.hid (show rightP ⟨now, held, sip, stl, under, over, fails, ready, awaited⟩ ⟨kind, time, ip, till, why, len, a, cap, data⟩ = false by simp [rightP, a7, k7])
          (try clear a5)
          (try clear a7)
          (try clear k5)
          (try clear k7)
          (try clear y6)
          (try clear ht)
          go_upto_region 6 with fail
          go_quiet (fail)
          go_wp2
          all_goals go_ret
          all_goals exact ⟨by rw [HP.out]; rfl, H1.out.2.1.drewN _⟩
    · have a7b : (awaited == 7) = false := by simp [a7]
      by_cases k5 : kind = 5
      · have k5b : (kind == 5) = true := by simp [k5]
        have k7b : (kind == 7) = false := by simp [k5]
        have k7c : (kind != 7) = true := by simp [k5]
        have k7 : ¬ kind = 7 := by omega
        by_cases y6 : why = 6
        · have y6b : (why == 6) = true := by simp [y6]
          have HP := Lib.hid (show rightP ⟨now, held, sip, stl, under, over, fails, ready, awaited⟩ ⟨kind, time, ip, till, why, len, a, cap, data⟩ = false by simp [rightP, a5, a7, k5, y6])
          (try clear a5)
          (try clear a7)
          (try clear k5)
          (try clear k7)
          (try clear y6)
          (try clear ht)
          go_wp2
          all_goals go_ret
          all_goals exact ⟨by rw [HP.out]; rfl, H1.out.2.1⟩
        · have y6b : (why == 6) = false := by simp [y6]
          have HP := Lib.hid (show rightP ⟨now, held, sip, stl, under, over, fails, ready, awaited⟩ ⟨kind, time, ip, till, why, len, a, cap, data⟩ = true by simp [rightP, a5, a7, k5, y6])
          (try clear a5)
          (try clear a7)
          (try clear k5)
          (try clear k7)
          (try clear y6)
          (try clear ht)
          go_wp2
          all_goals go_ret
          all_goals exact ⟨by rw [HP.out]; rfl, H1.out.2.1⟩
      · have k5b : (kind == 5) = false := by simp [k5]
        by_cases k7 : kind = 7
        · have k7b : (kind == 7) = true := by simp [k7]
          have k7c : (kind != 7) = false := by simp [k7]
          have HP := Lib.hid (show rightP ⟨now, held, sip, stl, under, over, fails, ready, awaited⟩ ⟨kind, time, ip, till, why, len, a, cap, data⟩ = false by simp [rightP, a5, a7, k7])
          (try clear a5)
          (try clear a7)
          (try clear k5)
          (try clear k7)
          (try clear y6)
          (try clear ht)
          go_wp2
          all_goals go_ret
          all_goals exact ⟨by rw [HP.out]; rfl, H1.out.2.1⟩
        · have k7b : (kind == 7) = false := by simp [k7]
          have k7c : (kind != 7) = true := by simp [k7]
          have HP := Lib.hid (show rightP ⟨now, held, sip, stl, under, over, fails, ready, awaited⟩ ⟨kind, time, ip, till, why, len, a, cap, data⟩ = true by simp [rightP, a5, a7, k5, k7])
          (try clear a5)
          (try clear a7)
          (try clear k5)
          (try clear k7)
          (try clear y6)
          (try clear ht)
          go_wp2
          all_goals go_ret
          all_goals exact ⟨by rw [HP.out]; rfl, H1.out.2.1⟩
end Go.Proofs.Ythoaeolohnalnaa
