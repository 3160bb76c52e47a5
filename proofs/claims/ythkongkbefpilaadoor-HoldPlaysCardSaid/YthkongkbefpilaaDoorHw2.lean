/-
  The reference's hold (slipwayref19): Seal. PRINTED by wip/tools/gen_rseal.py.
-/
import Derived.Test.YthkongkbefpilaaDoorHw
namespace Go.Proofs.YthkongkbefpilaaDoor
set_option maxRecDepth 100000
open Go.RowKit Sha
section
variable {B : Nat} {w w1 w2 : World} {F : Nat → Prop} {x : Nat} {v : Value} {s : HS}
set_option maxHeartbeats 1600000 in
theorem rSeal_open (h : IsRef B w F x s) (h0 : s.shut = false) : Calls Tryd.prog 28 #[.pointer (some ⟨x, 0, none⟩)] w fun e w' => e = .returned (.tuple #[.bool s.right, .int .i64 0]) ∧ DidR B w F x { s with shut := s.right } w' := by
  obtain ⟨v, hA⟩ := h.at'
  obtain ⟨A, c, rfl⟩ := own_slice1 hA.row
  have c34 := hA.c34
  rw [h0] at c34
  have c0 : w.drew.cell? ⟨x, 0, none⟩ = _ := hA.c0
  have hwant : w.drew.rangeAt x 2 (BC s.want) := hA.wantAt
  have hr := hA.ok.room
  have hm := hA.ok.most
  have hwl : (BC s.want).length = 32 := by rw [BC_length, hA.ok.want]
  have eqs : ∀ W, (Op.equalIn 10000 23 (.agg (BC (sha s.img)).toArray) (.agg (BC s.want).toArray)).run Tryd.prog W = .ok s.right W := fun W => equal32 W _ _ (sha_length _) hA.ok.want
  obtain ⟨n, hn⟩ : ∃ b, w.heap.size = b := ⟨_, rfl⟩
  have HO := Lib.hid (show Only Nil w (w.drew.alloc (.cells #[.slice A s.img.length c] 26)) from (Only.refl Nil w).drew.alloc _)
  have hcall := rsum_any _ _ [s.img] _ (parts_row1 (w := w.drew) (OwnB.reads' hA.row).drew n 26 hn) (by simp; omega) (by simp)
  have HA := Lib.hid hA
  have HH := Lib.hid h
  have HN := Lib.hid hn
  have hnd : w.drew.heap.size = n := hn
  clear hA h h0
  go_enter Tryd.func28, Tryd.ntmps28
  go_upto_region 3 with fail
  refine wp_region_any (by kernel_rfl) ?_
  change wpAny _ _ _ _ _ _ _ (World.drew _)
  refine wpAny_take (i := 0) (v := ?_) rfl (by kernel_rfl) (by kernel_rfl) (by kernel_rfl) (fun _ _ _ h => h) (Or.inl ⟨by rfl, by intro w; go_simp; try (with_reducible rfl)⟩) ?_
  refine wpAny_take (i := 1) (v := ?_) rfl (by kernel_rfl) (by kernel_rfl) (by kernel_rfl) (fun _ _ _ h => h) (Or.inl ⟨by rfl, by intro w; go_simp; try (with_reducible rfl)⟩) ?_
  refine wpAny_take (i := 2) (v := ?_) rfl (by kernel_rfl) (by kernel_rfl) (by kernel_rfl) (fun _ _ _ h => h) (Or.inl ⟨by rfl, by intro w; go_simp; try (with_reducible rfl)⟩) ?_
  refine wpAny_take (i := 3) (v := ?_) rfl (by kernel_rfl) (by kernel_rfl) (by kernel_rfl) (fun _ _ _ h => h) (Or.inl ⟨by rfl, by intro w; go_simp; try (with_reducible rfl)⟩) ?_
  refine wpAny_take (i := 7) (v := ?_) rfl (by kernel_rfl) (by kernel_rfl) (by kernel_rfl) (fun _ _ _ h => h) (Or.inl ⟨by rfl, by intro w; go_simp; try (with_reducible rfl)⟩) ?_
  refine wpAny_take (i := 8) (v := ?_) rfl (by kernel_rfl) (by kernel_rfl) (by kernel_rfl) (fun _ _ _ h => h) (Or.inl ⟨by rfl, by intro w; go_simp; try (with_reducible rfl)⟩) ?_
  refine wpAny_take (i := 9) (v := ?_) rfl (by kernel_rfl) (by kernel_rfl) (by kernel_rfl) (fun _ _ _ h => h) (Or.inl ⟨by rfl, by intro w; go_simp; try (with_reducible rfl)⟩) ?_
  refine wpAny_act ⟨#[.pointer (some ⟨x, 0, none⟩), undef, .bool false, .int .i64 0, .pointer (some ⟨x, 0, none⟩), .pointer (some ⟨x, 0, none⟩), .pointer (some ⟨x, 34, none⟩), .bool false, .pointer (some ⟨x, 0, none⟩), .pointer (some ⟨x, 0, none⟩), .pointer (some ⟨x, 0, none⟩), .pointer (some ⟨x, 0, none⟩), undef, undef, undef, .pointer (some ⟨x, 0, none⟩), .pointer (some ⟨x, 0, none⟩), .pointer (some ⟨x, 2, none⟩), undef, undef, undef, undef, undef, undef, undef, undef], []⟩ (by kernel_rfl) ?_

  refine wpAny_ready (rs := [4, 10]) (by kernel_rfl) (by simp) ?_
  refine AllReady.cons rfl (fun K hK => ?_) (AllReady.cons rfl (fun K hK => ?_) AllReady.nil)
  · go_simp
    refine hK _ _ ?_
    clear hK K
    refine wpAny_ready (rs := [5, 10]) (by kernel_rfl) (by simp) ?_
    refine AllReady.cons rfl (fun K hK => ?_) (AllReady.cons rfl (fun K hK => ?_) AllReady.nil)
    · go_simp
      refine hK _ _ ?_
      clear hK K
      refine wpAny_ready (rs := [6, 10]) (by kernel_rfl) (by simp) ?_
      refine AllReady.cons rfl (fun K hK => ?_) (AllReady.cons rfl (fun K hK => ?_) AllReady.nil)
      · go_simp
        try rw [hnd]
        go_at_call 20
        refine hcall.mono ?_
        rintro r w5 ⟨rfl, ho5⟩
        try go_simp
        try (refine hK _ _ ?_; clear hK K)
        refine wpAny_ready (rs := [10]) (by kernel_rfl) (by simp) ?_
        refine AllReady.cons rfl (fun K hK => ?_) AllReady.nil
        refine step_load_mid rfl 23 (.tmp 17) rfl x 2 rfl (BC s.want) _ (by first | exact hwant | exact (HA.out.only HO.out fun _ _ e => e).wantAt | exact (HA.out.only (HO.out.then ho5) fun _ _ e => e).wantAt) Tryd.underlying23 rfl (by rw [hwl]; kernel_rfl) ?_
        refine hK _ _ ?_
        clear hK K
        refine wpAny_ready (rs := [11]) (by kernel_rfl) (by simp) ?_
        refine AllReady.cons rfl (fun K hK => ?_) AllReady.nil
        have d34 : w5.cell? ⟨x, 34, none⟩ = some (.bool false) := (HO.out.then ho5).cell c34 id
        have f34 := (HA.out.only (HO.out.then ho5) fun _ _ e => e).blk.free 34
        go_simp
        refine hK _ _ ?_
        clear hK K
        refine wpAny_take (i := 12) (v := ?_) rfl (by kernel_rfl) (by kernel_rfl) (by kernel_rfl) (fun _ _ _ h => h) (Or.inl ⟨by rfl, by intro w; go_simp; try (with_reducible rfl)⟩) ?_
        refine wpAny_take (i := 13) (v := ?_) rfl (by kernel_rfl) (by kernel_rfl) (by kernel_rfl) (fun _ _ _ h => h) (Or.inl ⟨by rfl, by intro w; go_simp; try (with_reducible rfl)⟩) ?_
        refine wpAny_ready (rs := [14]) (by kernel_rfl) (by simp) ?_
        refine AllReady.cons rfl (fun K hK => ?_) AllReady.nil
        go_simp
        refine hK _ _ ?_
        clear hK K
        refine wpAny_done (by kernel_rfl) ?_ _
        have HD := Lib.hid (HA.out.sealTo HH.out (HO.out.then ho5) s.right)
        clear ho5 hcall
        go_wp2
        go_ret2
        exact ⟨rfl, HD.out⟩
      · refine step_load_mid rfl 23 (.tmp 17) rfl x 2 rfl (BC s.want) _ (by first | exact hwant | exact (HA.out.only HO.out fun _ _ e => e).wantAt | exact (HA.out.only (HO.out.then ho5) fun _ _ e => e).wantAt) Tryd.underlying23 rfl (by rw [hwl]; kernel_rfl) ?_
        refine hK _ _ ?_
        clear hK K
        refine wpAny_ready (rs := [6]) (by kernel_rfl) (by simp) ?_
        refine AllReady.cons rfl (fun K hK => ?_) AllReady.nil
        go_simp
        try rw [hnd]
        go_at_call 20
        refine hcall.mono ?_
        rintro r w5 ⟨rfl, ho5⟩
        try go_simp
        try (refine hK _ _ ?_; clear hK K)
        refine wpAny_ready (rs := [11]) (by kernel_rfl) (by simp) ?_
        refine AllReady.cons rfl (fun K hK => ?_) AllReady.nil
        have d34 : w5.cell? ⟨x, 34, none⟩ = some (.bool false) := (HO.out.then ho5).cell c34 id
        have f34 := (HA.out.only (HO.out.then ho5) fun _ _ e => e).blk.free 34
        go_simp
        refine hK _ _ ?_
        clear hK K
        refine wpAny_take (i := 12) (v := ?_) rfl (by kernel_rfl) (by kernel_rfl) (by kernel_rfl) (fun _ _ _ h => h) (Or.inl ⟨by rfl, by intro w; go_simp; try (with_reducible rfl)⟩) ?_
        refine wpAny_take (i := 13) (v := ?_) rfl (by kernel_rfl) (by kernel_rfl) (by kernel_rfl) (fun _ _ _ h => h) (Or.inl ⟨by rfl, by intro w; go_simp; try (with_reducible rfl)⟩) ?_
        refine wpAny_ready (rs := [14]) (by kernel_rfl) (by simp) ?_
        refine AllReady.cons rfl (fun K hK => ?_) AllReady.nil
        go_simp
        refine hK _ _ ?_
        clear hK K
        refine wpAny_done (by kernel_rfl) ?_ _
        have HD := Lib.hid (HA.out.sealTo HH.out (HO.out.then ho5) s.right)
        clear ho5 hcall
        go_wp2
        go_ret2
        exact ⟨rfl, HD.out⟩
    · refine step_load_mid rfl 23 (.tmp 17) rfl x 2 rfl (BC s.want) _ (by first | exact hwant | exact (HA.out.only HO.out fun _ _ e => e).wantAt | exact (HA.out.only (HO.out.then ho5) fun _ _ e => e).wantAt) Tryd.underlying23 rfl (by rw [hwl]; kernel_rfl) ?_
      refine hK _ _ ?_
      clear hK K
      refine wpAny_ready (rs := [5]) (by kernel_rfl) (by simp) ?_
      refine AllReady.cons rfl (fun K hK => ?_) AllReady.nil
      go_simp
      refine hK _ _ ?_
      clear hK K
      refine wpAny_ready (rs := [6]) (by kernel_rfl) (by simp) ?_
      refine AllReady.cons rfl (fun K hK => ?_) AllReady.nil
      go_simp
      try rw [hnd]
      go_at_call 20
      refine hcall.mono ?_
      rintro r w5 ⟨rfl, ho5⟩
      try go_simp
      try (refine hK _ _ ?_; clear hK K)
      refine wpAny_ready (rs := [11]) (by kernel_rfl) (by simp) ?_
      refine AllReady.cons rfl (fun K hK => ?_) AllReady.nil
      have d34 : w5.cell? ⟨x, 34, none⟩ = some (.bool false) := (HO.out.then ho5).cell c34 id
      have f34 := (HA.out.only (HO.out.then ho5) fun _ _ e => e).blk.free 34
      go_simp
      refine hK _ _ ?_
      clear hK K
      refine wpAny_take (i := 12) (v := ?_) rfl (by kernel_rfl) (by kernel_rfl) (by kernel_rfl) (fun _ _ _ h => h) (Or.inl ⟨by rfl, by intro w; go_simp; try (with_reducible rfl)⟩) ?_
      refine wpAny_take (i := 13) (v := ?_) rfl (by kernel_rfl) (by kernel_rfl) (by kernel_rfl) (fun _ _ _ h => h) (Or.inl ⟨by rfl, by intro w; go_simp; try (with_reducible rfl)⟩) ?_
      refine wpAny_ready (rs := [14]) (by kernel_rfl) (by simp) ?_
      refine AllReady.cons rfl (fun K hK => ?_) AllReady.nil
      go_simp
      refine hK _ _ ?_
      clear hK K
      refine wpAny_done (by kernel_rfl) ?_ _
      have HD := Lib.hid (HA.out.sealTo HH.out (HO.out.then ho5) s.right)
      clear ho5 hcall
      go_wp2
      go_ret2
      exact ⟨rfl, HD.out⟩
  · refine step_load_mid rfl 23 (.tmp 17) rfl x 2 rfl (BC s.want) _ (by first | exact hwant | exact (HA.out.only HO.out fun _ _ e => e).wantAt | exact (HA.out.only (HO.out.then ho5) fun _ _ e => e).wantAt) Tryd.underlying23 rfl (by rw [hwl]; kernel_rfl) ?_
    refine hK _ _ ?_
    clear hK K
    refine wpAny_ready (rs := [4]) (by kernel_rfl) (by simp) ?_
    refine AllReady.cons rfl (fun K hK => ?_) AllReady.nil
    go_simp
    refine hK _ _ ?_
    clear hK K
    refine wpAny_ready (rs := [5]) (by kernel_rfl) (by simp) ?_
    refine AllReady.cons rfl (fun K hK => ?_) AllReady.nil
    go_simp
    refine hK _ _ ?_
    clear hK K
    refine wpAny_ready (rs := [6]) (by kernel_rfl) (by simp) ?_
    refine AllReady.cons rfl (fun K hK => ?_) AllReady.nil
    go_simp
    try rw [hnd]
    go_at_call 20
    refine hcall.mono ?_
    rintro r w5 ⟨rfl, ho5⟩
    try go_simp
    try (refine hK _ _ ?_; clear hK K)
    refine wpAny_ready (rs := [11]) (by kernel_rfl) (by simp) ?_
    refine AllReady.cons rfl (fun K hK => ?_) AllReady.nil
    have d34 : w5.cell? ⟨x, 34, none⟩ = some (.bool false) := (HO.out.then ho5).cell c34 id
    have f34 := (HA.out.only (HO.out.then ho5) fun _ _ e => e).blk.free 34
    go_simp
    refine hK _ _ ?_
    clear hK K
    refine wpAny_take (i := 12) (v := ?_) rfl (by kernel_rfl) (by kernel_rfl) (by kernel_rfl) (fun _ _ _ h => h) (Or.inl ⟨by rfl, by intro w; go_simp; try (with_reducible rfl)⟩) ?_
    refine wpAny_take (i := 13) (v := ?_) rfl (by kernel_rfl) (by kernel_rfl) (by kernel_rfl) (fun _ _ _ h => h) (Or.inl ⟨by rfl, by intro w; go_simp; try (with_reducible rfl)⟩) ?_
    refine wpAny_ready (rs := [14]) (by kernel_rfl) (by simp) ?_
    refine AllReady.cons rfl (fun K hK => ?_) AllReady.nil
    go_simp
    refine hK _ _ ?_
    clear hK K
    refine wpAny_done (by kernel_rfl) ?_ _
    have HD := Lib.hid (HA.out.sealTo HH.out (HO.out.then ho5) s.right)
    clear ho5 hcall
    go_wp2
    go_ret2
    exact ⟨rfl, HD.out⟩
theorem rSeal_any (h : IsRef B w F x s) : Calls Tryd.prog 28 #[.pointer (some ⟨x, 0, none⟩)] w fun e w' => e = .returned (.tuple #[.bool (s.right && !s.shut), .int .i64 (s.open' : Int)]) ∧ DidR B w F x s.sealed w' := by
  unfold HS.sealed HS.open'
  by_cases h0 : s.shut = true
  · simp only [h0, if_true, Bool.not_true, Bool.and_false]
    exact rSeal_shut h h0
  · have h1 : s.shut = false := by simpa using h0
    rw [h1]
    simp only [Bool.false_eq_true, if_false, Bool.not_false, Bool.and_true]
    exact rSeal_open h h1
end
end Go.Proofs.YthkongkbefpilaaDoor
