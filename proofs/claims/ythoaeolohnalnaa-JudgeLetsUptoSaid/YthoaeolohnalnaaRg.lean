/-
  The reference's rules 5 to 11: byKind.
-/
import Derived.Test.YthoaeolohnalnaaRe
import Derived.Test.YthoaeolohnalnaaRf
import Derived.Test.YthoaeolohnalnaaJq
namespace Go.Proofs.Ythoaeolohnalnaa
open Go.RowKit

/-- The judge's state as the reference's words have it. -/
def stR (l : List Ev) : Lk := ⟨0, (heldR l).isSome, ((heldR l).getD ev0).ip, ((heldR l).getD ev0).till, underR l, overR l, failsR l l.length, restR l, 0⟩
def byKindR (c : Cfg) (l : List Ev) (e : Ev) : Int := if e.kind = 5 ∧ e.why = 6 then 0 else (ruleP c (stR l) e).1
theorem heldV_eq (o : Option Ev) : heldV o = (o.getD ev0).v := by cases o <;> rfl
theorem may_free (l : List Ev) (t : Int) : mayP (stR l) t = freeR l t := rfl
theorem rhost_is (ip : Int) (x : Bool) (h : hostP ip = x) (w : World) (h0 : 0 ≤ ip) (h1 : ip < 4294967296) : Calls Try.prog 58 #[.int .u32 ip] w fun e w' => e = .returned (.bool x) ∧ w = w' := by
  subst h
  exact rhost_any ip w h0 h1
set_option maxHeartbeats 6400000 in
set_option maxRecDepth 100000 in
theorem byKind_any (c : Cfg) (v : Value) (l : List Ev) (e : Ev) (w : World) (hc : c.ok) (hv : Evs w v l) (he : e.ok w) (hn : l.length ≤ 1000000000000) (hT : ∀ j, j < l.length → 0 ≤ (l.getD j ev0).time ∧ (l.getD j ev0).time ≤ 1125899906842624) :
    Calls Try.prog 47 #[.agg c.cells.toArray, v, e.v] w fun r w' => r = .returned (.int .i64 (byKindR c l e)) ∧ Only Nil w w' := by
  obtain ⟨A, cp, rfl, hcp⟩ := hv.form
  have HHeld := Lib.hid (show ∀ W, Only Nil w W → _ from fun W ho => held_any _ l W (hv.nil ho) hn)
  have HUnd := Lib.hid (show ∀ W, Only Nil w W → _ from fun W ho => under_any _ l W (hv.nil ho) hn)
  have HFree := Lib.hid (show ∀ W, Only Nil w W → _ from fun W ho => free_any _ l e.time W (hv.nil ho) hn hT)
  have HFr := Lib.hid (show ∀ W, Only Nil w W → _ from fun W ho => framed_any c e.d e.data W hc (he.off ho fun _ _ _ => id).rb)
  have HAd := Lib.hid (show ∀ W, Only Nil w W → RB W e.d e.data from fun W ho => (he.off ho fun _ _ _ => id).rb)
  have hip0 := he.ip0
  have hip1 := he.ip1
  have HHo := Lib.hid (show ∀ W, _ from fun W => rhost_is e.ip (hostP e.ip) rfl W hip0 hip1)
  have HC := Lib.hid hc
  have hsz : c.cells.toArray.size = 45 := by rw [List.size_toArray, hc.length]
  have HB := Lib.hid (show byKindR c l e = if e.kind = 5 ∧ e.why = 6 then 0 else (ruleP c (stR l) e).1 from rfl)
  have HM := Lib.hid (may_free l e.time)
  unfold stR at HB HM
  rw [heldV_eq] at HHeld
  generalize (heldR l).getD ev0 = h at *
  generalize (heldR l).isSome = hd at *
  generalize underR l = un at *
  generalize freeR l e.time = my at *
  generalize overR l = ov at *
  generalize restR l = rs at *
  generalize failsR l l.length = fs at *
  clear hv hc he hT hip0 hip1
  obtain ⟨kind, time, ip, till, why, len, a, cap, data⟩ := e
  obtain ⟨hkind, htime, hip, htill, hwhy, hlen, ha, hcap, hdata⟩ := h
  unfold Ev.v at HHeld
  unfold Ev.v
  unfold Ev.d at HFr HAd
  simp only at HB HM HHo HFr HAd HFree HHeld
  obtain ⟨ho, hho⟩ : ∃ x, hostP ip = x := ⟨_, rfl⟩
  rw [hho] at HHo
  have HP := Lib.hid hho
  clear hho
  go_enter Try.func47, Try.ntmps47
  go_upto_region 1 with fail
  obtain ⟨b, hb⟩ : ∃ b, w.heap.size = b := ⟨_, rfl⟩
  refine wp_gen (fun W => Only Nil w W ∧ Blk W b 26 c.cells ∧ Blk W (b + 1) 48 [.int .i64 kind, .int .i64 time, .int .u32 ip, .int .i64 till, .int .i64 why, .int .i64 len, .slice a data.length cap]) ⟨((Only.refl _ _).alloc _).alloc _, hb ▸ (Blk.new w _ _).alloc _, by
      have := Blk.new (w.alloc (.cells c.cells.toArray 26)) 48 [.int .i64 kind, .int .i64 time, .int .u32 ip, .int .i64 till, .int .i64 why, .int .i64 len, .slice a data.length cap]
      rw [World.size_alloc, hb] at this
      exact this⟩ ?_
  rw [hb]
  clear hb
  intro w1 h1
  have H1 := Lib.hid h1
  clear h1
  go_upto_region 2 with (go_at_call 46; refine (HHeld.out _ H1.out.1).mono ?_; rintro r w2 ⟨rfl, ho2⟩)
  obtain ⟨p, hp⟩ : ∃ p, w2.heap.size = p := ⟨_, rfl⟩
  refine wp_gen (fun W => Only Nil w W ∧ Blk W b 26 c.cells ∧ Blk W (b + 1) 48 [.int .i64 kind, .int .i64 time, .int .u32 ip, .int .i64 till, .int .i64 why, .int .i64 len, .slice a data.length cap] ∧ Blk W p 48 [.int .i64 hkind, .int .i64 htime, .int .u32 hip, .int .i64 htill, .int .i64 hwhy, .int .i64 hlen, .slice ha hdata.length hcap])
    ⟨(H1.out.1.then ho2).alloc _, (ho2.blk H1.out.2.1 id).alloc _, (ho2.blk H1.out.2.2 id).alloc _, hp ▸ Blk.new w2 _ _⟩ ?_
  rw [hp]
  clear H1 ho2 hp
  intro w1 h1
  have e1 : w1.cell? ⟨b + 1, 1, none⟩ = some (.int .i64 time) := h1.2.2.1.cell 1
  have H1 := Lib.hid h1
  clear h1
  go_upto_region 4 with (first
    | (go_at_call 38; refine (HUnd.out _ H1.out.1).mono ?_; rintro r w' ⟨rfl, rfl⟩)
    | (go_at_call 57; refine (HFree.out _ H1.out.1).mono ?_; rintro r w2 ⟨rfl, ho2⟩))
  refine wp_gen (fun W => Only Nil w W ∧ Blk W b 26 c.cells ∧ Blk W (b + 1) 48 [.int .i64 kind, .int .i64 time, .int .u32 ip, .int .i64 till, .int .i64 why, .int .i64 len, .slice a data.length cap] ∧ Blk W p 48 [.int .i64 hkind, .int .i64 htime, .int .u32 hip, .int .i64 htill, .int .i64 hwhy, .int .i64 hlen, .slice ha hdata.length hcap])
    ⟨H1.out.1.then ho2, ho2.blk H1.out.2.1 id, ho2.blk H1.out.2.2.1 id, ho2.blk H1.out.2.2.2 id⟩ ?_
  clear H1 ho2 e1 HFree HUnd HHeld
  intro w1 h1
  have e0 : w1.cell? ⟨b + 1, 0, none⟩ = some (.int .i64 kind) := h1.2.2.1.cell 0
  have e1 : w1.cell? ⟨b + 1, 1, none⟩ = some (.int .i64 time) := h1.2.2.1.cell 1
  have e2 : w1.cell? ⟨b + 1, 2, none⟩ = some (.int .u32 ip) := h1.2.2.1.cell 2
  have e3 : w1.cell? ⟨b + 1, 3, none⟩ = some (.int .i64 till) := h1.2.2.1.cell 3
  have e4 : w1.cell? ⟨b + 1, 4, none⟩ = some (.int .i64 why) := h1.2.2.1.cell 4
  have e5 : w1.cell? ⟨b + 1, 5, none⟩ = some (.int .i64 len) := h1.2.2.1.cell 5
  have e6 : w1.cell? ⟨b + 1, 6, none⟩ = some (.slice a data.length cap) := h1.2.2.1.cell 6
  have g2 : w1.cell? ⟨p, 2, none⟩ = some (.int .u32 hip) := h1.2.2.2.cell 2
  have c41 := cfg_most HC.out h1.2.1
  have H1 := Lib.hid h1
  clear h1
  go_upto_region 6 with (go_at_call 58; refine (HHo.out _).mono ?_; rintro r w' ⟨rfl, rfl⟩)
  by_cases k1 : kind = 1
  · subst k1
    have hsp := sentBad_eq c ⟨1, time, ip, till, why, len, a, cap, data⟩
    have HS := Lib.hid (show byKindR c l ⟨1, time, ip, till, why, len, a, cap, data⟩ = if framedR c data = false then 5 else if (addrOk data && (!decide (addrP data = 0) && (!hd || !decide (addrP data = hip)))) = true then 6 else 0 by
      rw [HB.out]
      simp only [ruleP, sentP, hsp, sentWrong]
      cases framedR c data <;> simp)
    clear HB hsp HM
    have hfr := HFr.out w1 H1.out.1
    obtain ⟨x, hx⟩ : ∃ x, addrP data = x := ⟨_, rfl⟩
    obtain ⟨o, ho'⟩ : ∃ o, addrOk data = o := ⟨_, rfl⟩
    have HR := Lib.hid (show ∀ W, Only Nil w W → _ from fun W hW => raddr_is (.slice a data.length cap) data x o hx ho' W (HAd.out W hW))
    rw [hx, ho'] at HS
    clear hx ho' HAd HFr
    generalize framedR c data = fr at *
    go_upto_region 8 with (first
      | ((with_reducible show wpList _ _ _ (Oper.mk _ (.load 26 _) _ _ _ _ :: _) _ _); refine wpList_load_row rfl 26 (.tmp 3) rfl b rfl 26 c.cells.toArray (0, 0) _ H1.out.2.1 Try.underlying26 rfl (by rw [hsz]; kernel_rfl) ?_)
      | (go_at_call 59; refine hfr.mono ?_; rintro r w2 ⟨rfl, ho2⟩))
    refine wp_gen (fun W => Only Nil w W ∧ Blk W (b + 1) 48 [.int .i64 1, .int .i64 time, .int .u32 ip, .int .i64 till, .int .i64 why, .int .i64 len, .slice a data.length cap] ∧ Blk W p 48 [.int .i64 hkind, .int .i64 htime, .int .u32 hip, .int .i64 htill, .int .i64 hwhy, .int .i64 hlen, .slice ha hdata.length hcap])
      ⟨H1.out.1.then ho2, ho2.blk H1.out.2.2.1 id, ho2.blk H1.out.2.2.2 id⟩ ?_
    clear H1 ho2 e0 e1 e2 e3 e4 e5 e6 g2 c41 hfr
    intro w1 h1
    have e6 : w1.cell? ⟨b + 1, 6, none⟩ = some (.slice a data.length cap) := h1.2.1.cell 6
    have g2 : w1.cell? ⟨p, 2, none⟩ = some (.int .u32 hip) := h1.2.2.cell 2
    have H1 := Lib.hid h1.1
    clear h1
    have hra := HR.out w1 H1.out
    clear HR
    cases fr
    · go_wp2
      go_ret
      exact ⟨by rw [HS.out]; rfl, H1.out⟩
    cases o
    · go_wp2_with (go_at_call 26; refine hra.mono ?_; rintro r w5 ⟨rfl, n, rfl⟩)
      go_ret
      exact ⟨by rw [HS.out]; rfl, H1.out.drewN n⟩
    by_cases x0 : x = 0
    · subst x0
      go_wp2_with (go_at_call 26; refine hra.mono ?_; rintro r w5 ⟨rfl, n, rfl⟩)
      go_ret
      exact ⟨by rw [HS.out]; rfl, H1.out.drewN n⟩
    have x0b : (x != 0) = true := by simp [x0]
    cases hd
    · go_wp2_with (go_at_call 26; refine hra.mono ?_; rintro r w5 ⟨rfl, n, rfl⟩)
      go_ret
      exact ⟨by rw [HS.out]; simp [x0], H1.out.drewN n⟩
    by_cases x1 : x = hip
    · subst x1
      have hxx : (x != x) = false := by simp
      go_wp2_with (go_at_call 26; refine hra.mono ?_; rintro r w5 ⟨rfl, n, rfl⟩)
      go_ret
      exact ⟨by rw [HS.out]; simp, H1.out.drewN n⟩
    · have x1b : (x != hip) = true := by simp [x1]
      go_wp2_with (go_at_call 26; refine hra.mono ?_; rintro r w5 ⟨rfl, n, rfl⟩)
      go_ret
      exact ⟨by rw [HS.out]; simp [x0, x1], H1.out.drewN n⟩
  clear HFr HAd
  by_cases k2 : kind = 2
  · subst k2
    go_wp2
    all_goals go_ret
    all_goals exact ⟨by refine congrArg (fun i => Ending.returned (Value.int .i64 i)) ?_; rw [HB.out]; simp [ruleP, adoptP, adoptBad, HP.out] <;> grind, H1.out.1⟩
  by_cases k3 : kind = 3
  · subst k3
    go_wp2
    all_goals go_ret
    all_goals exact ⟨by refine congrArg (fun i => Ending.returned (Value.int .i64 i)) ?_; rw [HB.out]; simp [ruleP, dropP, dropBad] <;> grind, H1.out.1⟩
  by_cases k4 : kind = 4
  · subst k4
    cases my
    all_goals go_wp2
    all_goals go_ret
    all_goals exact ⟨by refine congrArg (fun i => Ending.returned (Value.int .i64 i)) ?_; rw [HB.out]; simp [ruleP, fetchP, fetchBad, HM.out, HP.out] <;> grind, H1.out.1⟩
  by_cases k5 : kind = 5
  · subst k5
    have hw : why < 1 ∨ (¬ why < 1 ∧ 7 < why) ∨ why = 7 ∨ why = 6 ∨ why = 1 ∨ why = 2 ∨ why = 3 ∨ why = 4 ∨ why = 5 := by omega
    rcases hw with hw | ⟨hw, hw2⟩ | rfl | rfl | rfl | rfl | rfl | rfl | rfl
    all_goals cases my
    all_goals cases un
    all_goals go_wp2
    all_goals go_ret
    all_goals exact ⟨by refine congrArg (fun i => Ending.returned (Value.int .i64 i)) ?_; rw [HB.out]; simp [ruleP, failP, failBad, HM.out] <;> grind, H1.out.1⟩
  by_cases k6 : kind = 6
  · subst k6
    go_wp2
    all_goals go_ret
    all_goals exact ⟨by refine congrArg (fun i => Ending.returned (Value.int .i64 i)) ?_; rw [HB.out]; simp [ruleP, handoffP, handoffBad] <;> grind, H1.out.1⟩
  have HS := Lib.hid (show byKindR c l ⟨kind, time, ip, till, why, len, a, cap, data⟩ = 0 by rw [HB.out]; simp [ruleP, k1, k2, k3, k4, k5, k6, giveUpP])
  go_wp2
  go_ret
  exact ⟨by rw [HS.out]; rfl, H1.out.1⟩
end Go.Proofs.Ythoaeolohnalnaa
