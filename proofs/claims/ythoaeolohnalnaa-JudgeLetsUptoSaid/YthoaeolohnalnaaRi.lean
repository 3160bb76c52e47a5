/-
  The reference's judge of a trace.
-/
import Derived.Test.YthoaeolohnalnaaRh
namespace Go.Proofs.Ythoaeolohnalnaa
open Go.RowKit

def fauR (c : Cfg) (l : List Ev) (k : Nat) : Int := faultR c (l.take k) (l.getD k ev0)
def SaysR (c : Cfg) (l : List Ev) (at' rule err : Int) : Prop :=
  ((∀ k, k < l.length → fauR c l k = 0) ∧ at' = -1 ∧ rule = 0 ∧ err = 0) ∨ ∃ k, k < l.length ∧ (∀ j, j < k → fauR c l j = 0) ∧ fauR c l k ≠ 0 ∧ at' = (k : Nat) ∧ rule = fauR c l k ∧ err = 270
theorem fau_time {c : Cfg} {l : List Ev} {k : Nat} (h : fauR c l k = 0) : 0 ≤ (l.getD k ev0).time ∧ (l.getD k ev0).time ≤ 1125899906842624 := by
  unfold fauR faultR at h
  split at h
  · exact absurd h (by decide)
  · rename_i hf
    have := formed_bounds (e := l.getD k ev0) (by simpa using hf)
    exact ⟨this.2.2.1, this.2.2.2⟩
set_option maxHeartbeats 6400000 in
set_option maxRecDepth 100000 in
theorem rjudge_any (c : Cfg) (v : Value) (l : List Ev) (w : World) (hc : c.ok) (hv : Evs w v l) (hn : l.length ≤ 1000000000000) :
    Calls Try.prog 19 #[.agg c.cells.toArray, v] w fun r w' => (∃ a x y, r = .returned (.tuple #[.int .i64 a, .int .i64 x, .int .i64 y]) ∧ SaysR c l a x y) ∧ Only Nil w w' := by
  have hsz : c.cells.toArray.size = 45 := by rw [List.size_toArray, hc.length]
  obtain ⟨A, cp, rfl, hcp⟩ := hv.form
  have HC := Lib.hid hc
  have HV := Lib.hid (show ∀ W, Only Nil w W → Evs W (.slice A l.length cp) l from fun W ho => hv.nil ho)
  clear hv hc
  go_enter Try.func19, Try.ntmps19
  go_upto_region 1 with fail
  obtain ⟨b, hb⟩ : ∃ b, w.heap.size = b := ⟨_, rfl⟩
  refine wp_gen (fun W => Only Nil w W ∧ Blk W b 26 c.cells) ⟨(Only.refl _ _).alloc _, hb ▸ Blk.new w _ _⟩ ?_
  rw [hb]
  clear hb
  intro w1 h1
  have H1 := Lib.hid h1
  clear h1
  go_upto_region 2 with fail
  go_loopw [7] (fun i wr => ∃ k : Nat, k ≤ l.length ∧ i = .int .i64 (k : Nat) ∧ (∀ j, j < k → fauR c l j = 0) ∧ Only Nil w wr ∧ Blk wr b 26 c.cells) (fun i _ => l.length - (intOf i).toNat)
  case atStart => exact ⟨0, Nat.zero_le _, rfl, fun j hj => absurd hj (by omega), H1.out⟩
  case round =>
    obtain ⟨k, hk, rfl, hall, hO⟩ := hrel
    have HA := Lib.hid hall
    have HO := Lib.hid hO
    clear hall hO H1
    by_cases hlt : k < l.length
    · have g1 : (k : Int) < (l.length : Int) := by omega
      obtain ⟨g, o, rfl, hcell, hok⟩ := (HV.out _ HO.out.1).at hlt
      have hsl := fun W => slice_evs (A := some ⟨g, o, none⟩) (m := l.length) (cap := cp) (n := k) (by omega) W
      have hlen : (l.take k).length = k := by rw [List.length_take]; omega
      have hT : ∀ j, j < (l.take k).length → 0 ≤ ((l.take k).getD j ev0).time ∧ ((l.take k).getD j ev0).time ≤ 1125899906842624 := fun j hj => by
        rw [hlen] at hj
        rw [getD_take l k j hj]
        exact fau_time (HA.out j hj)
      have hcall := fault_any c (.slice (some ⟨g, o, none⟩) k cp) (l.take k) (l.getD k ev0) wr.drew HC.out (evs_take (HV.out wr.drew HO.out.1.drew) (by omega)) ((HV.out wr.drew HO.out.1.drew).at hlt |>.choose_spec.choose_spec.2.2) (by omega) hT
      have HFK := Lib.hid (show fauR c l k = faultR c (l.take k) (l.getD k ev0) from rfl)
      have HNX := Lib.hid (show fauR c l k = 0 → ∀ j, j < k + 1 → fauR c l j = 0 from fun h0 j hj => by
        by_cases hjk : j = k
        · rw [hjk]; exact h0
        · exact HA.out j (by omega))
      rw [← HFK.out] at hcall
      generalize l.getD k ev0 = e at *
      obtain ⟨kind, time, ip, till, why, len, a, cap, data⟩ := e
      unfold Ev.v at hcall
      have q0 : wr.drew.cell? ⟨g, o + k * 7, none⟩ = some (.int .i64 kind) := hcell 0 (by omega)
      have q1 : wr.drew.cell? ⟨g, o + k * 7 + 1, none⟩ = some (.int .i64 time) := hcell 1 (by omega)
      have q2 : wr.drew.cell? ⟨g, o + k * 7 + 2, none⟩ = some (.int .u32 ip) := hcell 2 (by omega)
      have q3 : wr.drew.cell? ⟨g, o + k * 7 + 3, none⟩ = some (.int .i64 till) := hcell 3 (by omega)
      have q4 : wr.drew.cell? ⟨g, o + k * 7 + 4, none⟩ = some (.int .i64 why) := hcell 4 (by omega)
      have q5 : wr.drew.cell? ⟨g, o + k * 7 + 5, none⟩ = some (.int .i64 len) := hcell 5 (by omega)
      have q6 : wr.drew.cell? ⟨g, o + k * 7 + 6, none⟩ = some (.slice a data.length cap) := hcell 6 (by omega)
      have hblk : Blk wr.drew b 26 c.cells := HO.out.2.drew
      clear hcell hok hT
      go_upto_region 4 with fail
      go_cut [8] (fun t wx => t = .int .i64 (fauR c l k) ∧ Only Nil w wx ∧ Blk wx b 26 c.cells)
      case first =>
        refine wp_region_any (by kernel_rfl) ?_
        change wpAny _ _ _ _ _ _ _ (World.drew _)
        refine wpAny_take (i := 1) (v := ?_) rfl (by kernel_rfl) (by kernel_rfl) (by kernel_rfl) (fun _ _ _ h => h) (Or.inl ⟨by rfl, by intro w; go_simp; try (with_reducible rfl)⟩) ?_
        refine wpAny_take (i := 2) (v := ?_) rfl (by kernel_rfl) (by kernel_rfl) (by kernel_rfl) (fun _ _ _ h => h) (Or.inl ⟨by rfl, by intro w; go_simp; try (with_reducible rfl)⟩) ?_
        refine wpAny_take (i := 4) (v := ?_) rfl (by kernel_rfl) (by kernel_rfl) (by kernel_rfl) (fun _ _ _ h => h) (Or.inl ⟨by rfl, by intro w; go_simp; try (with_reducible rfl)⟩) ?_
        refine wpAny_take (i := 5) (v := ?_) rfl (by kernel_rfl) (by kernel_rfl) (by kernel_rfl) (fun _ _ _ h => h) (Or.inl ⟨by rfl, by intro w; go_simp; try (with_reducible rfl)⟩) ?_
        refine wpAny_take (i := 3) (v := ?_) rfl (by kernel_rfl) (by kernel_rfl) (by kernel_rfl) (fun _ _ _ h => h) (Or.inl ⟨by rfl, by intro w; go_simp; try (with_reducible rfl)⟩) ?_
        refine wpAny_take (i := 6) (v := ?_) rfl (by kernel_rfl) (by kernel_rfl) (by kernel_rfl) (fun _ _ _ h => h) (Or.inl ⟨by rfl, by intro w; go_simp; try (with_reducible rfl)⟩) ?_
        refine wpAny_ready (rs := [0, 7]) (by kernel_rfl) (by simp) ?_
        refine AllReady.cons rfl (fun K hK => ?_) (AllReady.cons rfl (fun K hK => ?_) AllReady.nil)
        · refine step_load_row rfl 26 (.tmp 2) rfl b rfl 26 c.cells.toArray (0, 0) _ hblk Try.underlying26 rfl (by rw [hsz]; kernel_rfl) ?_
          refine hK _ _ ?_
          clear hK K
          refine wpAny_ready (rs := [7]) (by kernel_rfl) (by simp) ?_
          refine AllReady.cons rfl (fun K hK => ?_) AllReady.nil
          go_simp
          refine hK _ _ ?_
          clear hK K
          refine wpAny_ready (rs := [8]) (by kernel_rfl) (by simp) ?_
          refine AllReady.cons rfl (fun K hK => ?_) AllReady.nil
          go_simp
          go_at_call 36
          refine hcall.mono ?_
          rintro r w5 ⟨rfl, ho5⟩
          try go_simp
          try (refine hK _ _ ?_; clear hK K)
          refine wpAny_take (i := 9) (v := ?_) rfl (by kernel_rfl) (by kernel_rfl) (by kernel_rfl) (fun _ _ _ h => h) (Or.inl ⟨by rfl, by intro w; go_simp; try (with_reducible rfl)⟩) ?_
          refine wpAny_done (by kernel_rfl) ?_ _
          have HE := Lib.hid (And.intro (HO.out.1.drew.then ho5) (ho5.blk hblk id))
          clear ho5 hcall hsl
          go_simp
          go_wp2_with fail
          go_meet
          exact ⟨rfl, HE.out⟩
        · go_simp
          refine hK _ _ ?_
          clear hK K
          refine wpAny_ready (rs := [0]) (by kernel_rfl) (by simp) ?_
          refine AllReady.cons rfl (fun K hK => ?_) AllReady.nil
          refine step_load_row rfl 26 (.tmp 2) rfl b rfl 26 c.cells.toArray (0, 0) _ hblk Try.underlying26 rfl (by rw [hsz]; kernel_rfl) ?_
          refine hK _ _ ?_
          clear hK K
          refine wpAny_ready (rs := [8]) (by kernel_rfl) (by simp) ?_
          refine AllReady.cons rfl (fun K hK => ?_) AllReady.nil
          go_simp
          go_at_call 36
          refine hcall.mono ?_
          rintro r w5 ⟨rfl, ho5⟩
          try go_simp
          try (refine hK _ _ ?_; clear hK K)
          refine wpAny_take (i := 9) (v := ?_) rfl (by kernel_rfl) (by kernel_rfl) (by kernel_rfl) (fun _ _ _ h => h) (Or.inl ⟨by rfl, by intro w; go_simp; try (with_reducible rfl)⟩) ?_
          refine wpAny_done (by kernel_rfl) ?_ _
          have HE := Lib.hid (And.intro (HO.out.1.drew.then ho5) (ho5.blk hblk id))
          clear ho5 hcall hsl
          go_simp
          go_wp2_with fail
          go_meet
          exact ⟨rfl, HE.out⟩
      case rest =>
        obtain ⟨rfl, hO⟩ := hcut
        have HE := Lib.hid hO
        clear hO HO hblk q0 q1 q2 q3 q4 q5 q6 hcall hsl HFK
        generalize hf : fauR c l k = f at *
        by_cases h0 : f = 0
        · have HN := Lib.hid (HNX.out h0)
          have HF := Lib.hid hf
          subst h0
          clear hf HNX
          go_wp2
          go_roundw
          case rel => exact ⟨k + 1, by omega, by go_num, HN.out, HE.out⟩
          case measure => simp [intOf]; omega
        · have h0b : (f != 0) = true := by simp [h0]
          have HF := Lib.hid hf
          have H0 := Lib.hid h0
          clear hf h0 HNX
          go_wp2
          go_ret3
          exact ⟨⟨_, _, _, rfl, .inr ⟨k, hlt, HA.out, by rw [HF.out]; exact H0.out, rfl, HF.out.symm, rfl⟩⟩, HE.out.1⟩
    · have g1 : ¬ (k : Int) < (l.length : Int) := by omega
      obtain rfl : k = l.length := by omega
      go_wp2
      go_ret3
      exact ⟨⟨_, _, _, rfl, .inl ⟨HA.out, rfl, rfl, rfl⟩⟩, HO.out.1⟩
end Go.Proofs.Ythoaeolohnalnaa
