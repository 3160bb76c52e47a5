/-
  The reference's rule of an event behind others: Fault.
-/
import Derived.Test.YthoaeolohnalnaaRg
namespace Go.Proofs.Ythoaeolohnalnaa
open Go.RowKit

def lastT (l : List Ev) : Int := (l.getD (l.length - 1) ev0).time
def leaseP (e : Ev) : Bool := decide (e.kind = 5) && decide (e.why = 6)
def wantR (c : Cfg) (l : List Ev) (e : Ev) : Bool :=
  if awaitedR c l = 0 then decide (e.kind = 7) || leaseP e else !decide (e.kind = awaitedR c l) || ((decide (e.kind = 5) && !leaseP e) || !decide (e.time = lastT l))
def lapsR (l : List Ev) (e : Ev) : Bool := (heldR l).isSome && (!decide (((heldR l).getD ev0).till = -1) && (decide (((heldR l).getD ev0).till ≤ e.time) && !decide (e.kind = 3)))
def faultR (c : Cfg) (l : List Ev) (e : Ev) : Int :=
  if formedP e = false then 1 else if 0 < l.length ∧ e.time < lastT l then 2 else if wantR c l e = true then 3 else if lapsR l e = true then 4 else byKindR c l e
theorem awaited_len {c : Cfg} {l : List Ev} (h : awaitedR c l ≠ 0) : 0 < l.length := by
  unfold awaitedR at h
  by_cases h0 : l.length = 0
  · rw [if_pos h0] at h
    exact absurd rfl h
  · omega
theorem rformed_is (e : Ev) (x : Bool) (h : formedP e = x) (w : World) : Calls Try.prog 44 #[e.v] w fun r w' => r = .returned (.bool x) ∧ Only Nil w w' := by
  subst h
  exact rformed_any e w
set_option maxHeartbeats 6400000 in
set_option maxRecDepth 100000 in
theorem fault_any (c : Cfg) (v : Value) (l : List Ev) (e : Ev) (w : World) (hc : c.ok) (hv : Evs w v l) (he : e.ok w) (hn : l.length ≤ 1000000000000) (hT : ∀ j, j < l.length → 0 ≤ (l.getD j ev0).time ∧ (l.getD j ev0).time ≤ 1125899906842624) :
    Calls Try.prog 36 #[.agg c.cells.toArray, v, e.v] w fun r w' => r = .returned (.int .i64 (faultR c l e)) ∧ Only Nil w w' := by
  have hsz : c.cells.toArray.size = 45 := by rw [List.size_toArray, hc.length]
  obtain ⟨A, cp, rfl, hcp⟩ := hv.form
  have HHeld := Lib.hid (show ∀ W, Only Nil w W → _ from fun W ho => held_any _ l W (hv.nil ho) hn)
  have HAw := Lib.hid (show ∀ W, Only Nil w W → _ from fun W ho => awaited_any c _ l W hc (hv.nil ho) hn)
  have HBy := Lib.hid (show ∀ W, Only Nil w W → _ from fun W ho => byKind_any c _ l e W hc (hv.nil ho) (he.off ho fun _ _ _ => id) hn hT)
  have HLast := Lib.hid (show ∀ W, Only Nil w W → 0 < l.length → ∃ g o, A = some ⟨g, o, none⟩ ∧ W.cell? ⟨g, o + (l.length - 1) * 7 + 1, none⟩ = some (.int .i64 (lastT l)) from fun W ho h0 => by
    obtain ⟨g, o, hA, hcell, _⟩ := (hv.nil ho).at (show l.length - 1 < l.length by omega)
    exact ⟨g, o, hA, hcell 1 (by omega)⟩)
  have HF := Lib.hid (show faultR c l e = if formedP e = false then 1 else if 0 < l.length ∧ e.time < lastT l then 2 else if wantR c l e = true then 3 else if lapsR l e = true then 4 else byKindR c l e from rfl)
  have HW := Lib.hid (show wantR c l e = if awaitedR c l = 0 then decide (e.kind = 7) || leaseP e else !decide (e.kind = awaitedR c l) || ((decide (e.kind = 5) && !leaseP e) || !decide (e.time = lastT l)) from rfl)
  have HLp := Lib.hid (show lapsR l e = ((heldR l).isSome && (!decide (((heldR l).getD ev0).till = -1) && (decide (((heldR l).getD ev0).till ≤ e.time) && !decide (e.kind = 3)))) from rfl)
  have HAL := Lib.hid (show awaitedR c l ≠ 0 → 0 < l.length from awaited_len)
  have HLe := Lib.hid (show leaseP e = (decide (e.kind = 5) && decide (e.why = 6)) from rfl)
  obtain ⟨fo, hfo⟩ : ∃ x, formedP e = x := ⟨_, rfl⟩
  have HFo := Lib.hid (rformed_is e fo hfo)
  rw [hfo] at HF
  rw [heldV_eq] at HHeld
  clear hfo
  generalize (heldR l).getD ev0 = h at *
  generalize (heldR l).isSome = hd at *
  generalize awaitedR c l = aw at *
  generalize lastT l = lt at *
  generalize byKindR c l e = by' at *
  generalize faultR c l e = fr at *
  generalize wantR c l e = wa at *
  generalize lapsR l e = lp at *
  generalize leaseP e = le at *
  clear hv hc he hT
  obtain ⟨kind, time, ip, till, why, len, a, cap, data⟩ := e
  obtain ⟨hkind, htime, hip, htill, hwhy, hlen, ha, hcap, hdata⟩ := h
  unfold Ev.v at HHeld HFo HBy
  unfold Ev.v
  simp only at HF HW HLp HHeld HFo HBy HLe
  go_enter Try.func36, Try.ntmps36
  go_upto_region 1 with fail
  obtain ⟨b, hb⟩ : ∃ b, w.heap.size = b := ⟨_, rfl⟩
  refine wp_gen (fun W => Only Nil w W ∧ Blk W b 26 c.cells ∧ Blk W (b + 1) 48 [.int .i64 kind, .int .i64 time, .int .u32 ip, .int .i64 till, .int .i64 why, .int .i64 len, .slice a data.length cap]) ⟨((Only.refl _ _).alloc _).alloc _, hb ▸ (Blk.new w _ _).alloc _, by
      have := Blk.new (w.alloc (.cells c.cells.toArray 26)) 48 [.int .i64 kind, .int .i64 time, .int .u32 ip, .int .i64 till, .int .i64 why, .int .i64 len, .slice a data.length cap]
      rw [World.size_alloc, hb] at this
      exact this⟩ ?_
  rw [hb]
  clear hb
  intro w1 h1
  have e0 : w1.cell? ⟨b + 1, 0, none⟩ = some (.int .i64 kind) := h1.2.2.cell 0
  have e1 : w1.cell? ⟨b + 1, 1, none⟩ = some (.int .i64 time) := h1.2.2.cell 1
  have e2 : w1.cell? ⟨b + 1, 2, none⟩ = some (.int .u32 ip) := h1.2.2.cell 2
  have e3 : w1.cell? ⟨b + 1, 3, none⟩ = some (.int .i64 till) := h1.2.2.cell 3
  have e4 : w1.cell? ⟨b + 1, 4, none⟩ = some (.int .i64 why) := h1.2.2.cell 4
  have e5 : w1.cell? ⟨b + 1, 5, none⟩ = some (.int .i64 len) := h1.2.2.cell 5
  have e6 : w1.cell? ⟨b + 1, 6, none⟩ = some (.slice a data.length cap) := h1.2.2.cell 6
  have H1 := Lib.hid h1
  clear h1
  go_upto_region 2 with (go_at_call 44; refine (HFo.out _).mono ?_; rintro r w2 ⟨rfl, ho2⟩)
  refine wp_gen (fun W => Only Nil w W ∧ Blk W b 26 c.cells ∧ Blk W (b + 1) 48 [.int .i64 kind, .int .i64 time, .int .u32 ip, .int .i64 till, .int .i64 why, .int .i64 len, .slice a data.length cap]) ⟨H1.out.1.then ho2, ho2.blk H1.out.2.1 id, ho2.blk H1.out.2.2 id⟩ ?_
  clear H1 ho2 e0 e1 e2 e3 e4 e5 e6
  intro w1 h1
  have e0 : w1.cell? ⟨b + 1, 0, none⟩ = some (.int .i64 kind) := h1.2.2.cell 0
  have e1 : w1.cell? ⟨b + 1, 1, none⟩ = some (.int .i64 time) := h1.2.2.cell 1
  have e2 : w1.cell? ⟨b + 1, 2, none⟩ = some (.int .u32 ip) := h1.2.2.cell 2
  have e3 : w1.cell? ⟨b + 1, 3, none⟩ = some (.int .i64 till) := h1.2.2.cell 3
  have e4 : w1.cell? ⟨b + 1, 4, none⟩ = some (.int .i64 why) := h1.2.2.cell 4
  have e5 : w1.cell? ⟨b + 1, 5, none⟩ = some (.int .i64 len) := h1.2.2.cell 5
  have e6 : w1.cell? ⟨b + 1, 6, none⟩ = some (.slice a data.length cap) := h1.2.2.cell 6
  have H1 := Lib.hid h1
  clear h1
  cases fo
  · have hs := Lib.hid (show fr = 1 by rw [HF.out]; simp)
    go_wp2
    go_ret
    exact ⟨by rw [hs.out]; rfl, H1.out.1⟩
  go_upto_region 4 with fail
  by_cases hl0 : 0 < l.length ∧ time < lt
  · have hs := Lib.hid (show fr = 2 by rw [HF.out]; simp [hl0.1, hl0.2])
    obtain ⟨g, o, rfl, hlast⟩ := HLast.out _ H1.out.1 hl0.1
    obtain ⟨k, hk⟩ : ∃ k, l.length - 1 = k := ⟨_, rfl⟩
    rw [hk] at hlast
    have hk1 : (l.length : Int) - 1 = (k : Int) := by omega
    have hk2 : (k : Int) < (l.length : Int) := by omega
    have hk3 : decide (0 < l.length) = true := by rw [decide_eq_true_eq]; omega
    have hlt := hl0.2
    clear hl0 hk
    go_quiet (fail)
    go_wp2
    go_ret
    exact ⟨by rw [hs.out]; rfl, H1.out.1.drewN _⟩
  have HF2 := Lib.hid (show fr = if wa = true then 3 else if lp = true then 4 else by' by rw [HF.out, if_neg (by simp), if_neg hl0])
  clear HF
  go_cut [30] (fun t wx => t = .bool false ∧ Only Nil w wx ∧ Blk wx b 26 c.cells ∧ Blk wx (b + 1) 48 [.int .i64 kind, .int .i64 time, .int .u32 ip, .int .i64 till, .int .i64 why, .int .i64 len, .slice a data.length cap])
  case first =>
    by_cases h0 : 0 < l.length
    · obtain ⟨g, o, rfl, hlast⟩ := HLast.out _ H1.out.1 h0
      obtain ⟨k, hk⟩ : ∃ k, l.length - 1 = k := ⟨_, rfl⟩
      rw [hk] at hlast
      have hk1 : (l.length : Int) - 1 = (k : Int) := by omega
      have hk2 : (k : Int) < (l.length : Int) := by omega
      have hk3 : decide (0 < l.length) = true := by rw [decide_eq_true_eq]; omega
      have hlt : ¬ time < lt := fun h => hl0 ⟨h0, h⟩
      clear hl0 hk h0
      go_quiet (fail)
      go_wp2_with fail
      go_meet
      exact ⟨by simp <;> omega, H1.out.1.drewN _, H1.out.2.1, H1.out.2.2⟩
    · have hk3 : decide (0 < l.length) = false := by rw [decide_eq_false_iff_not]; exact h0
      clear hl0 h0
      go_quiet (fail)
      go_wp2_with fail
      go_meet
      exact ⟨rfl, H1.out.1.drewN _, H1.out.2.1, H1.out.2.2⟩
  case rest =>
    clear H1 e0 e1 e2 e3 e4 e5 e6 hl0
    obtain ⟨rfl, h1⟩ := hcut
    have e0 : wc.cell? ⟨b + 1, 0, none⟩ = some (.int .i64 kind) := h1.2.2.cell 0
    have e1 : wc.cell? ⟨b + 1, 1, none⟩ = some (.int .i64 time) := h1.2.2.cell 1
    have e2 : wc.cell? ⟨b + 1, 2, none⟩ = some (.int .u32 ip) := h1.2.2.cell 2
    have e3 : wc.cell? ⟨b + 1, 3, none⟩ = some (.int .i64 till) := h1.2.2.cell 3
    have e4 : wc.cell? ⟨b + 1, 4, none⟩ = some (.int .i64 why) := h1.2.2.cell 4
    have e5 : wc.cell? ⟨b + 1, 5, none⟩ = some (.int .i64 len) := h1.2.2.cell 5
    have e6 : wc.cell? ⟨b + 1, 6, none⟩ = some (.slice a data.length cap) := h1.2.2.cell 6
    have H1 := Lib.hid h1
    clear h1
    go_upto_region 7 with (first
      | ((with_reducible show wpList _ _ _ (Oper.mk _ (.load 26 _) _ _ _ _ :: _) _ _); refine wpList_load_row rfl 26 (.tmp 3) rfl b rfl 26 c.cells.toArray (0, 0) _ H1.out.2.1 Try.underlying26 rfl (by rw [hsz]; kernel_rfl) ?_)
      | (go_at_call 45; refine (HAw.out _ H1.out.1).mono ?_; rintro r w2 ⟨rfl, ho2⟩))
    refine wp_gen (fun W => Only Nil w W ∧ Blk W b 26 c.cells ∧ Blk W (b + 1) 48 [.int .i64 kind, .int .i64 time, .int .u32 ip, .int .i64 till, .int .i64 why, .int .i64 len, .slice a data.length cap]) ⟨H1.out.1.then ho2, ho2.blk H1.out.2.1 id, ho2.blk H1.out.2.2 id⟩ ?_
    clear H1 ho2 e0 e1 e2 e3 e4 e5 e6
    intro w1 h1
    have e0 : w1.cell? ⟨b + 1, 0, none⟩ = some (.int .i64 kind) := h1.2.2.cell 0
    have e1 : w1.cell? ⟨b + 1, 1, none⟩ = some (.int .i64 time) := h1.2.2.cell 1
    have e2 : w1.cell? ⟨b + 1, 2, none⟩ = some (.int .u32 ip) := h1.2.2.cell 2
    have e3 : w1.cell? ⟨b + 1, 3, none⟩ = some (.int .i64 till) := h1.2.2.cell 3
    have e4 : w1.cell? ⟨b + 1, 4, none⟩ = some (.int .i64 why) := h1.2.2.cell 4
    have e5 : w1.cell? ⟨b + 1, 5, none⟩ = some (.int .i64 len) := h1.2.2.cell 5
    have e6 : w1.cell? ⟨b + 1, 6, none⟩ = some (.slice a data.length cap) := h1.2.2.cell 6
    have H1 := Lib.hid h1
    clear h1
    clear HAw
    go_cut [9] (fun t wx => t = .bool le ∧ wx = w1)
    case first =>
      by_cases k5 : kind = 5
      · subst k5
        by_cases k6 : why = 6
        · subst k6
          go_wp2_with fail
          go_meet
          exact ⟨by rw [HLe.out]; simp, rfl⟩
        · go_wp2_with fail
          go_meet
          exact ⟨by rw [HLe.out]; simp [k6], rfl⟩
      · go_wp2_with fail
        go_meet
        exact ⟨by rw [HLe.out]; simp [k5], rfl⟩
    case rest =>
      obtain ⟨rfl, rfl⟩ := hcut
      by_cases h0 : aw = 0
      · subst h0
        have HW2 := Lib.hid (show wa = (decide (kind = 7) || le) by rw [HW.out]; simp)
        clear HW
        by_cases k7 : kind = 7
        · subst k7
          have hs := Lib.hid (show fr = 3 by rw [HF2.out, HW2.out]; simp)
          go_wp2
          go_ret
          exact ⟨by rw [hs.out]; rfl, H1.out.1⟩
        cases le
        · have HF3 := Lib.hid (show fr = if lp = true then 4 else by' by rw [HF2.out, HW2.out]; simp [k7])
          clear HF2 HW2 HLast
          go_upto_region 14 with (go_at_call 46; refine (HHeld.out _ H1.out.1).mono ?_; rintro r w2 ⟨rfl, ho2⟩)
          obtain ⟨p, hp⟩ : ∃ p, w2.heap.size = p := ⟨_, rfl⟩
          refine wp_gen (fun W => (Only Nil w W ∧ Blk W b 26 c.cells ∧ Blk W (b + 1) 48 [.int .i64 kind, .int .i64 time, .int .u32 ip, .int .i64 till, .int .i64 why, .int .i64 len, .slice a data.length cap]) ∧ Blk W p 48 [.int .i64 hkind, .int .i64 htime, .int .u32 hip, .int .i64 htill, .int .i64 hwhy, .int .i64 hlen, .slice ha hdata.length hcap])
            ⟨⟨(H1.out.1.then ho2).alloc _, (ho2.blk H1.out.2.1 id).alloc _, (ho2.blk H1.out.2.2 id).alloc _⟩, hp ▸ Blk.new w2 _ _⟩ ?_
          rw [hp]
          clear H1 ho2 hp e0 e1 e2 e3 e4 e5 e6
          intro w5 h5
          have e0 : w5.cell? ⟨b + 1, 0, none⟩ = some (.int .i64 kind) := h5.1.2.2.cell 0
          have e1 : w5.cell? ⟨b + 1, 1, none⟩ = some (.int .i64 time) := h5.1.2.2.cell 1
          have e2 : w5.cell? ⟨b + 1, 2, none⟩ = some (.int .u32 ip) := h5.1.2.2.cell 2
          have e3 : w5.cell? ⟨b + 1, 3, none⟩ = some (.int .i64 till) := h5.1.2.2.cell 3
          have e4 : w5.cell? ⟨b + 1, 4, none⟩ = some (.int .i64 why) := h5.1.2.2.cell 4
          have e5 : w5.cell? ⟨b + 1, 5, none⟩ = some (.int .i64 len) := h5.1.2.2.cell 5
          have e6 : w5.cell? ⟨b + 1, 6, none⟩ = some (.slice a data.length cap) := h5.1.2.2.cell 6
          have g3 : w5.cell? ⟨p, 3, none⟩ = some (.int .i64 htill) := h5.2.cell 3
          have H5 := Lib.hid h5.1
          clear h5
          cases hd
          · have hs := Lib.hid (show fr = by' by rw [HF3.out, HLp.out]; simp)
            go_wp2_with (first
              | ((with_reducible show wpList _ _ _ (Oper.mk _ (.load 26 _) _ _ _ _ :: _) _ _); refine wpList_load_row rfl 26 (.tmp 3) rfl b rfl 26 c.cells.toArray (0, 0) _ H5.out.2.1 Try.underlying26 rfl (by rw [hsz]; kernel_rfl) ?_)
              | (go_at_call 47; refine (HBy.out _ H5.out.1).mono ?_; rintro r w6 ⟨rfl, ho6⟩))
            go_ret
            exact ⟨by rw [hs.out]; rfl, H5.out.1.then ho6⟩
          by_cases t1 : htill = -1
          · have t1b : (htill != -1) = false := by simp [t1]
            have hs := Lib.hid (show fr = by' by rw [HF3.out, HLp.out]; simp [t1])
            clear t1
            go_wp2_with (first
              | ((with_reducible show wpList _ _ _ (Oper.mk _ (.load 26 _) _ _ _ _ :: _) _ _); refine wpList_load_row rfl 26 (.tmp 3) rfl b rfl 26 c.cells.toArray (0, 0) _ H5.out.2.1 Try.underlying26 rfl (by rw [hsz]; kernel_rfl) ?_)
              | (go_at_call 47; refine (HBy.out _ H5.out.1).mono ?_; rintro r w6 ⟨rfl, ho6⟩))
            go_ret
            exact ⟨by rw [hs.out]; rfl, H5.out.1.then ho6⟩
          have t1b : (htill != -1) = true := by simp [t1]
          by_cases t2 : htill ≤ time
          · by_cases k3 : kind = 3
            · have k3b : (kind != 3) = false := by simp [k3]
              have hs := Lib.hid (show fr = by' by rw [HF3.out, HLp.out]; simp [k3])
              clear k3
              go_wp2_with (first
                | ((with_reducible show wpList _ _ _ (Oper.mk _ (.load 26 _) _ _ _ _ :: _) _ _); refine wpList_load_row rfl 26 (.tmp 3) rfl b rfl 26 c.cells.toArray (0, 0) _ H5.out.2.1 Try.underlying26 rfl (by rw [hsz]; kernel_rfl) ?_)
                | (go_at_call 47; refine (HBy.out _ H5.out.1).mono ?_; rintro r w6 ⟨rfl, ho6⟩))
              go_ret
              exact ⟨by rw [hs.out]; rfl, H5.out.1.then ho6⟩
            · have k3b : (kind != 3) = true := by simp [k3]
              have hs := Lib.hid (show fr = 4 by rw [HF3.out, HLp.out]; simp [t1, t2, k3])
              go_wp2
              go_ret
              exact ⟨by rw [hs.out]; rfl, H5.out.1⟩
          · have hs := Lib.hid (show fr = by' by rw [HF3.out, HLp.out]; simp [t2])
            go_wp2_with (first
              | ((with_reducible show wpList _ _ _ (Oper.mk _ (.load 26 _) _ _ _ _ :: _) _ _); refine wpList_load_row rfl 26 (.tmp 3) rfl b rfl 26 c.cells.toArray (0, 0) _ H5.out.2.1 Try.underlying26 rfl (by rw [hsz]; kernel_rfl) ?_)
              | (go_at_call 47; refine (HBy.out _ H5.out.1).mono ?_; rintro r w6 ⟨rfl, ho6⟩))
            go_ret
            exact ⟨by rw [hs.out]; rfl, H5.out.1.then ho6⟩
        · have hs := Lib.hid (show fr = 3 by rw [HF2.out, HW2.out]; simp)
          go_wp2
          go_ret
          exact ⟨by rw [hs.out]; rfl, H1.out.1⟩
      · obtain ⟨g, o, rfl, hlast⟩ := HLast.out _ H1.out.1 (HAL.out h0)
        have hpos := HAL.out h0
        have h0b : (aw != 0) = true := by simp [h0]
        have HW2 := Lib.hid (show wa = (!decide (kind = aw) || ((decide (kind = 5) && !le) || !decide (time = lt))) by rw [HW.out, if_neg h0])
        obtain ⟨k, hk⟩ : ∃ k, l.length - 1 = k := ⟨_, rfl⟩
        rw [hk] at hlast
        have hk1 : (l.length : Int) - 1 = (k : Int) := by omega
        have hk2 : (k : Int) < (l.length : Int) := by omega
        clear HW hk hpos h0 HLast
        go_upto_region 9 with fail
        go_cut [68] (fun t wx => t = .bool wa ∧ Only Nil w wx ∧ Blk wx b 26 c.cells ∧ Blk wx (b + 1) 48 [.int .i64 kind, .int .i64 time, .int .u32 ip, .int .i64 till, .int .i64 why, .int .i64 len, .slice a data.length cap])
        case first =>
          by_cases ka : kind = aw
          · have kab : (kind != aw) = false := by simp [ka]
            have KA := Lib.hid ka
            clear ka
            by_cases k5 : kind = 5
            · subst k5
              cases le
              · go_quiet (fail)
                go_wp2_with fail
                go_meet
                exact ⟨by rw [HW2.out]; simp, H1.out.1.drewN _, H1.out.2.1, H1.out.2.2⟩
              · by_cases ht : time = lt
                · have htb : (time != lt) = false := by simp [ht]
                  have HT := Lib.hid ht
                  clear ht
                  go_quiet (fail)
                  go_wp2_with fail
                  go_meet
                  exact ⟨by rw [HW2.out]; simp [KA.out, HT.out], H1.out.1.drewN _, H1.out.2.1, H1.out.2.2⟩
                · have htb : (time != lt) = true := by simp [ht]
                  go_quiet (fail)
                  go_wp2_with fail
                  go_meet
                  exact ⟨by rw [HW2.out]; simp [ht], H1.out.1.drewN _, H1.out.2.1, H1.out.2.2⟩
            · have k5b : (kind == 5) = false := by simp [k5]
              by_cases ht : time = lt
              · have htb : (time != lt) = false := by simp [ht]
                have HT := Lib.hid ht
                clear ht
                go_quiet (fail)
                go_wp2_with fail
                go_meet
                exact ⟨by rw [HW2.out]; simp [KA.out, HT.out]; rw [← KA.out]; simp [k5], H1.out.1.drewN _, H1.out.2.1, H1.out.2.2⟩
              · have htb : (time != lt) = true := by simp [ht]
                go_quiet (fail)
                go_wp2_with fail
                go_meet
                exact ⟨by rw [HW2.out]; simp [ht], H1.out.1.drewN _, H1.out.2.1, H1.out.2.2⟩
          · have kab : (kind != aw) = true := by simp [ka]
            go_quiet (fail)
            go_wp2_with fail
            go_meet
            exact ⟨by rw [HW2.out]; simp [ka], H1.out.1.drewN _, H1.out.2.1, H1.out.2.2⟩
        case rest =>
          clear H1 e0 e1 e2 e3 e4 e5 e6 hlast
          obtain ⟨rfl, h1⟩ := hcut
          have e0 : wc.cell? ⟨b + 1, 0, none⟩ = some (.int .i64 kind) := h1.2.2.cell 0
          have e1 : wc.cell? ⟨b + 1, 1, none⟩ = some (.int .i64 time) := h1.2.2.cell 1
          have e2 : wc.cell? ⟨b + 1, 2, none⟩ = some (.int .u32 ip) := h1.2.2.cell 2
          have e3 : wc.cell? ⟨b + 1, 3, none⟩ = some (.int .i64 till) := h1.2.2.cell 3
          have e4 : wc.cell? ⟨b + 1, 4, none⟩ = some (.int .i64 why) := h1.2.2.cell 4
          have e5 : wc.cell? ⟨b + 1, 5, none⟩ = some (.int .i64 len) := h1.2.2.cell 5
          have e6 : wc.cell? ⟨b + 1, 6, none⟩ = some (.slice a data.length cap) := h1.2.2.cell 6
          have H1 := Lib.hid h1
          clear h1
          cases wa
          · have HF3 := Lib.hid (show fr = if lp = true then 4 else by' by rw [HF2.out]; simp)
            clear HF2 HW2
            go_upto_region 14 with (go_at_call 46; refine (HHeld.out _ H1.out.1).mono ?_; rintro r w2 ⟨rfl, ho2⟩)
            obtain ⟨p, hp⟩ : ∃ p, w2.heap.size = p := ⟨_, rfl⟩
            refine wp_gen (fun W => (Only Nil w W ∧ Blk W b 26 c.cells ∧ Blk W (b + 1) 48 [.int .i64 kind, .int .i64 time, .int .u32 ip, .int .i64 till, .int .i64 why, .int .i64 len, .slice a data.length cap]) ∧ Blk W p 48 [.int .i64 hkind, .int .i64 htime, .int .u32 hip, .int .i64 htill, .int .i64 hwhy, .int .i64 hlen, .slice ha hdata.length hcap])
              ⟨⟨(H1.out.1.then ho2).alloc _, (ho2.blk H1.out.2.1 id).alloc _, (ho2.blk H1.out.2.2 id).alloc _⟩, hp ▸ Blk.new w2 _ _⟩ ?_
            rw [hp]
            clear H1 ho2 hp e0 e1 e2 e3 e4 e5 e6
            intro w5 h5
            have e0 : w5.cell? ⟨b + 1, 0, none⟩ = some (.int .i64 kind) := h5.1.2.2.cell 0
            have e1 : w5.cell? ⟨b + 1, 1, none⟩ = some (.int .i64 time) := h5.1.2.2.cell 1
            have e2 : w5.cell? ⟨b + 1, 2, none⟩ = some (.int .u32 ip) := h5.1.2.2.cell 2
            have e3 : w5.cell? ⟨b + 1, 3, none⟩ = some (.int .i64 till) := h5.1.2.2.cell 3
            have e4 : w5.cell? ⟨b + 1, 4, none⟩ = some (.int .i64 why) := h5.1.2.2.cell 4
            have e5 : w5.cell? ⟨b + 1, 5, none⟩ = some (.int .i64 len) := h5.1.2.2.cell 5
            have e6 : w5.cell? ⟨b + 1, 6, none⟩ = some (.slice a data.length cap) := h5.1.2.2.cell 6
            have g3 : w5.cell? ⟨p, 3, none⟩ = some (.int .i64 htill) := h5.2.cell 3
            have H5 := Lib.hid h5.1
            clear h5
            cases hd
            · have hs := Lib.hid (show fr = by' by rw [HF3.out, HLp.out]; simp)
              go_wp2_with (first
                | ((with_reducible show wpList _ _ _ (Oper.mk _ (.load 26 _) _ _ _ _ :: _) _ _); refine wpList_load_row rfl 26 (.tmp 3) rfl b rfl 26 c.cells.toArray (0, 0) _ H5.out.2.1 Try.underlying26 rfl (by rw [hsz]; kernel_rfl) ?_)
                | (go_at_call 47; refine (HBy.out _ H5.out.1).mono ?_; rintro r w6 ⟨rfl, ho6⟩))
              go_ret
              exact ⟨by rw [hs.out]; rfl, H5.out.1.then ho6⟩
            by_cases t1 : htill = -1
            · have t1b : (htill != -1) = false := by simp [t1]
              have hs := Lib.hid (show fr = by' by rw [HF3.out, HLp.out]; simp [t1])
              clear t1
              go_wp2_with (first
                | ((with_reducible show wpList _ _ _ (Oper.mk _ (.load 26 _) _ _ _ _ :: _) _ _); refine wpList_load_row rfl 26 (.tmp 3) rfl b rfl 26 c.cells.toArray (0, 0) _ H5.out.2.1 Try.underlying26 rfl (by rw [hsz]; kernel_rfl) ?_)
                | (go_at_call 47; refine (HBy.out _ H5.out.1).mono ?_; rintro r w6 ⟨rfl, ho6⟩))
              go_ret
              exact ⟨by rw [hs.out]; rfl, H5.out.1.then ho6⟩
            have t1b : (htill != -1) = true := by simp [t1]
            by_cases t2 : htill ≤ time
            · by_cases k3 : kind = 3
              · have k3b : (kind != 3) = false := by simp [k3]
                have hs := Lib.hid (show fr = by' by rw [HF3.out, HLp.out]; simp [k3])
                clear k3
                go_wp2_with (first
                  | ((with_reducible show wpList _ _ _ (Oper.mk _ (.load 26 _) _ _ _ _ :: _) _ _); refine wpList_load_row rfl 26 (.tmp 3) rfl b rfl 26 c.cells.toArray (0, 0) _ H5.out.2.1 Try.underlying26 rfl (by rw [hsz]; kernel_rfl) ?_)
                  | (go_at_call 47; refine (HBy.out _ H5.out.1).mono ?_; rintro r w6 ⟨rfl, ho6⟩))
                go_ret
                exact ⟨by rw [hs.out]; rfl, H5.out.1.then ho6⟩
              · have k3b : (kind != 3) = true := by simp [k3]
                have hs := Lib.hid (show fr = 4 by rw [HF3.out, HLp.out]; simp [t1, t2, k3])
                go_wp2
                go_ret
                exact ⟨by rw [hs.out]; rfl, H5.out.1⟩
            · have hs := Lib.hid (show fr = by' by rw [HF3.out, HLp.out]; simp [t2])
              go_wp2_with (first
                | ((with_reducible show wpList _ _ _ (Oper.mk _ (.load 26 _) _ _ _ _ :: _) _ _); refine wpList_load_row rfl 26 (.tmp 3) rfl b rfl 26 c.cells.toArray (0, 0) _ H5.out.2.1 Try.underlying26 rfl (by rw [hsz]; kernel_rfl) ?_)
                | (go_at_call 47; refine (HBy.out _ H5.out.1).mono ?_; rintro r w6 ⟨rfl, ho6⟩))
              go_ret
              exact ⟨by rw [hs.out]; rfl, H5.out.1.then ho6⟩
          · have hs := Lib.hid (show fr = 3 by rw [HF2.out]; simp)
            go_wp2
            go_ret
            exact ⟨by rw [hs.out]; rfl, H1.out.1⟩
end Go.Proofs.Ythoaeolohnalnaa
