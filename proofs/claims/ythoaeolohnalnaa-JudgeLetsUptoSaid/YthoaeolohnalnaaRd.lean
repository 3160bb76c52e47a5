/-
  The reference's rules: Awaited, framed.
-/
import Derived.Test.YthoaeolohnalnaaRc
import Derived.Test.YthoaeolohnalnaaJBeg
namespace Go.Proofs.Ythoaeolohnalnaa
open Go.RowKit

def awaitedR (c : Cfg) (l : List Ev) : Int :=
  if l.length = 0 then 0 else if (l.getD (l.length - 1) ev0).kind = 3 ∧ underR (l.take (l.length - 1)) = true then 5 else if (l.getD (l.length - 1) ev0).kind = 5 ∧ failsR l l.length = c.att then 7 else 0
theorem cfg_at {W : World} {b : Nat} {c : Cfg} (hc : c.ok) (h : Blk W b 26 c.cells) : W.cell? ⟨b, 44, none⟩ = some (.int .i64 c.att) := by
  rw [h.cell]
  unfold Cfg.cells
  rw [List.getElem?_append_right (by rw [BC_length, hc.mac]; omega), BC_length, hc.mac, List.getElem?_append_right (by rw [hc.mid]; omega), hc.mid]
  rfl
theorem cfg_most {W : World} {b : Nat} {c : Cfg} (hc : c.ok) (h : Blk W b 26 c.cells) : W.cell? ⟨b, 41, none⟩ = some (.int .i64 c.most) := by
  rw [h.cell]
  unfold Cfg.cells
  rw [List.getElem?_append_right (by rw [BC_length, hc.mac]; omega), BC_length, hc.mac, List.getElem?_append_right (by rw [hc.mid]; omega), hc.mid]
  rfl
theorem cfg_mac {W : World} {b : Nat} {c : Cfg} (hc : c.ok) (h : Blk W b 26 c.cells) (i : Nat) (hi : i < 6) : W.cell? ⟨b, i, none⟩ = some (.int .u8 (by8 (c.mac.getD i 0))) := by
  rw [h.cell]
  unfold Cfg.cells
  rw [List.getElem?_append_left (by rw [BC_length, hc.mac]; exact hi)]
  exact BC_get _ _ (by rw [hc.mac]; exact hi)
set_option maxHeartbeats 3200000 in
theorem awaited_any (c : Cfg) (v : Value) (l : List Ev) (w : World) (hc : c.ok) (hv : Evs w v l) (hn : l.length ≤ 1000000000000) :
    Calls Try.prog 45 #[.agg c.cells.toArray, v] w fun r w' => r = .returned (.int .i64 (awaitedR c l)) ∧ Only Nil w w' := by
  obtain ⟨A, cp, rfl, hcp⟩ := hv.form
  have HV := Lib.hid (show ∀ W, Only Nil w W → Evs W (.slice A l.length cp) l from fun W ho => hv.nil ho)
  have HC := Lib.hid hc
  clear hv hc
  go_enter Try.func45, Try.ntmps45
  go_upto_region 1 with fail
  obtain ⟨b, hb⟩ : ∃ b, w.heap.size = b := ⟨_, rfl⟩
  refine wp_gen (fun W => Only Nil w W ∧ Blk W b 26 c.cells) ⟨(Only.refl _ _).alloc _, hb ▸ Blk.new w _ _⟩ ?_
  rw [hb]
  clear hb
  intro w1 h1
  have H1 := Lib.hid h1
  clear h1
  by_cases h0 : l.length = 0
  · have hs := Lib.hid (show awaitedR c l = 0 by simp [awaitedR, h0])
    rw [h0]
    go_wp2
    go_ret
    exact ⟨by rw [hs.out]; rfl, H1.out.1⟩
  · have hk : l.length - 1 < l.length := by omega
    have HS := Lib.hid (show awaitedR c l = if (l.getD (l.length - 1) ev0).kind = 3 ∧ underR (l.take (l.length - 1)) = true then 5 else if (l.getD (l.length - 1) ev0).kind = 5 ∧ failsR l l.length = c.att then 7 else 0 by rw [awaitedR, if_neg h0])
    have hsl : ∀ W : World, (Instr.slice 27 (.slice A l.length cp) none (some (.int .i64 ((l.length : Int) - 1))) none).run Try.prog W = .ok (.slice A (l.length - 1) cp) W := fun W => by
      have h := slice_evs (A := A) (m := l.length) (cap := cp) (n := l.length - 1) (by omega) W
      rwa [show ((l.length - 1 : Nat) : Int) = (l.length : Int) - 1 by omega] at h
    have HT := Lib.hid (show ∀ W, Only Nil w W → Evs W (.slice A (l.length - 1) cp) (l.take (l.length - 1)) from fun W ho => evs_take (HV.out W ho) (by omega))
    have hlt : (l.take (l.length - 1)).length ≤ 1000000000000 := by rw [List.length_take]; omega
    obtain ⟨g, o, rfl, hcell, _⟩ := (HV.out _ H1.out.1).at hk
    obtain ⟨k, hkl⟩ : ∃ k, l.length - 1 = k := ⟨_, rfl⟩
    rw [hkl] at hsl HT HS hlt hcell
    have hk1 : (1 : Int) ≤ (l.length : Int) := by omega
    have hl0 : ((l.length : Int) == 0) = false := by rw [beq_eq_false_iff_ne]; omega
    have hl1 : (l.length : Int) - 1 = (k : Int) := by omega
    have HL1 := Lib.hid hl1
    rw [hl1] at hsl
    generalize l.getD k ev0 = e at *
    obtain ⟨kind, time, ip, till, why, len, a, cap, data⟩ := e
    have q0 : w1.cell? ⟨g, o + k * 7, none⟩ = some (.int .i64 kind) := hcell 0 (by omega)
    have q1 : w1.cell? ⟨g, o + k * 7 + 1, none⟩ = some (.int .i64 time) := hcell 1 (by omega)
    have q2 : w1.cell? ⟨g, o + k * 7 + 2, none⟩ = some (.int .u32 ip) := hcell 2 (by omega)
    have q3 : w1.cell? ⟨g, o + k * 7 + 3, none⟩ = some (.int .i64 till) := hcell 3 (by omega)
    have q4 : w1.cell? ⟨g, o + k * 7 + 4, none⟩ = some (.int .i64 why) := hcell 4 (by omega)
    have q5 : w1.cell? ⟨g, o + k * 7 + 5, none⟩ = some (.int .i64 len) := hcell 5 (by omega)
    have q6 : w1.cell? ⟨g, o + k * 7 + 6, none⟩ = some (.slice a data.length cap) := hcell 6 (by omega)
    have hk2 : (k : Int) < (l.length : Int) := by omega
    clear hcell h0 hk hkl
    go_upto_region 5 with fail
    clear hl1
    obtain ⟨p, hp⟩ : ∃ p, w1.heap.size = p := ⟨_, rfl⟩
    refine wp_gen (fun W => (Only Nil w W ∧ Blk W b 26 c.cells) ∧ Blk W p 48 [.int .i64 kind, .int .i64 time, .int .u32 ip, .int .i64 till, .int .i64 why, .int .i64 len, .slice a data.length cap])
      ⟨⟨H1.out.1.alloc _, H1.out.2.alloc _⟩, hp ▸ Blk.new w1 _ _⟩ ?_
    rw [hp]
    clear H1 hp q0 q1 q2 q3 q4 q5 q6
    intro w4 h4
    have q0 : w4.cell? ⟨p, 0, none⟩ = some (.int .i64 kind) := h4.2.cell 0
    have c44 := cfg_at HC.out h4.1.2
    have H4 := Lib.hid h4.1
    clear h4
    have hcu := under_any _ _ w4 (HT.out _ H4.out.1) hlt
    have hcf := fails_any _ l w4 (HV.out _ H4.out.1) hn
    generalize underR (l.take k) = un at *
    generalize failsR l l.length = fs at *
    generalize c.att = at' at *
    simp only at HS
    go_upto_region 7 with (first
      | (go_at_call 38; refine hcu.mono ?_; rintro r w' ⟨rfl, rfl⟩)
      | (go_at_call 56; refine hcf.mono ?_; rintro r w' ⟨rfl, rfl⟩))
    clear hcu hcf
    by_cases k3 : kind = 3
    · subst k3
      cases un
      · have hs := Lib.hid (show awaitedR c l = 0 by rw [HS.out]; simp)
        go_wp2_with fail
        go_ret
        exact ⟨by rw [hs.out]; rfl, H4.out.1⟩
      · have hs := Lib.hid (show awaitedR c l = 5 by rw [HS.out]; simp)
        go_wp2_with fail
        go_ret
        exact ⟨by rw [hs.out]; rfl, H4.out.1⟩
    by_cases k5 : kind = 5
    · subst k5
      by_cases hf : fs = at'
      · have hfb : (fs == at') = true := by simp [hf]
        have hs := Lib.hid (show awaitedR c l = 7 by rw [HS.out]; simp [hf])
        clear hf HS
        go_wp2_with fail
        go_ret
        exact ⟨by rw [hs.out]; rfl, H4.out.1⟩
      · have hfb : (fs == at') = false := by simp [hf]
        have hs := Lib.hid (show awaitedR c l = 0 by rw [HS.out]; simp [hf])
        clear hf HS
        go_wp2_with fail
        go_ret
        exact ⟨by rw [hs.out]; rfl, H4.out.1⟩
    have hs := Lib.hid (show awaitedR c l = 0 by rw [HS.out]; simp [k3, k5])
    clear HS
    go_wp2_with fail
    go_ret
    exact ⟨by rw [hs.out]; rfl, H4.out.1⟩
end Go.Proofs.Ythoaeolohnalnaa
