/-
  The walks of a hold's methods (2): Seal, Bytes, Record, New.
-/
import Derived.Test.YthkongkbefpilaaDoorHb
import Derived.Lib.BufferMore
namespace Go.Proofs.YthkongkbefpilaaDoor
set_option maxRecDepth 100000
open Go.RowKit Sha

theorem step_load_mid {P : Program} {w : World} {ops : Array Oper} {o : Oper} {a : Act} {K : Act → World → Prop} {Q : Exit → Act → World → Prop} {E : Prop} (hgd : o.guard = none) (ty : TypeId) (x : Operand) (ho : o.op = .load ty x)
    (b off : Nat) (hx : a.eval x = .pointer (some ⟨b, off, none⟩)) (cs : List Value) (d : TypeDesc) (hc : w.rangeAt b off cs) (hu : P.underlying ty = some d) (hd : d.isRow = true) (hi : (P.info? ty).map (·.size) = some cs.length)
    (h : K (a.put o.dst (.agg cs.toArray)) w) : if Region.wanted o (yielded ops a.tmps) = true then Oper.wp P o a w K Q else E := by
  rw [if_pos (by simp [Region.wanted, hgd])]
  exact wp_load_mid ty x ho b off hx cs d hc hu hd hi h
theorem step_load_row {P : Program} {ops : Array Oper} {o : Oper} {a : Act} {w : World} {K : Act → World → Prop} {Q : Exit → Act → World → Prop} {E : Prop} (hgd : o.guard = none) (ty : TypeId) (x : Operand) (ho : o.op = .load ty x)
    (g : Nat) (hx : a.eval x = .pointer (some ⟨g, 0, none⟩)) (t : TypeId) (cs : Array Value) (fr : Nat × Nat) (d : TypeDesc) (hg : w.heap[g]? = some (.cells cs t fr))
    (hu : P.underlying ty = some d) (hd : (match d with | .struct _ | .array _ _ => true | _ => false) = true) (hi : (P.info? ty).map (·.size) = some cs.size)
    (h : K (a.put o.dst (.agg cs)) w) : if Region.wanted o (yielded ops a.tmps) = true then Oper.wp P o a w K Q else E := by
  rw [if_pos (by simp [Region.wanted, hgd])]
  exact wp_load_row ty x ho g hx t cs fr d hg hu hd hi h
theorem wpAny_act {P : Program} {md : Region.Mode} {ops : Array Oper} {Q : Exit → Act → World → Prop} {l : Array Bool} {a : Act} (a' : Act) {K : Nat} {w : World} (e : a = a') (h : wpAny P md ops Q K l a' w) : wpAny P md ops Q K l a w := e ▸ h
section
variable {B : Nat} {a0 a1 : Addr} {w : World} {F : Nat → Prop} {h g : Nat} {x : Value} {s : HS}
theorem HoldAt.want_at (hA : HoldAt B w F h g x s) : w.rangeAt h 3 (BC s.want) := fun j v hj => (hA.blk.cell (3 + j)).trans (s.cells_want g x j v hj)
theorem HS.cells_seal (s : HS) (g : Nat) (x : Value) (b : Bool) (hw : s.want.length = 32) : (s.cells g x).set 35 (.bool b) = { s with shut := b }.cells g x := by
  unfold HS.cells
  have h32 : (BC s.want).length = 32 := by rw [BC_length, hw]
  show x :: _ :: _ :: ((BC s.want ++ [Value.bool s.shut]).set 32 _) = _
  rw [List.set_append_right _ _ (by omega), h32]
  rfl
theorem HoldAt.sealTo (hA : HoldAt B w F h g x s) (hF : ∀ k, F k → B ≤ k ∧ k < w.heap.size) (hB : B ≤ w.heap.size) {w1 : World} (ho : Only Nil w w1) (b : Bool) : Did B w F h { s with shut := b } (w1.setCell ⟨h, 35, none⟩ (.bool b)) := by
  have o2 : Only (One h) w1 (w1.setCell ⟨h, 35, none⟩ (.bool b)) := Only.setCell (S := One h) (p := ⟨h, 35, none⟩) (Only.refl _ _) (.inl rfl) _
  have o3 : Only F w (w1.setCell ⟨h, 35, none⟩ (.bool b)) := (ho.mono (T := F) fun _ _ e => e.elim).trans o2 fun k e => .inl (by rw [show k = h from e]; exact hA.foot.1)
  have b2 : Blk (w1.setCell ⟨h, 35, none⟩ (.bool b)) h 57 ({ s with shut := b }.cells g x) := by
    have := (ho.blk hA.blk id).set 35 (.bool b)
    rwa [s.cells_seal g x b hA.ok.want] at this
  refine ⟨⟨⟨g, x, b2, (hA.hash.only ho id).only o2 (fun e => hA.ne.1 (Eq.symm e)), own_only (own_only hA.row ho fun _ _ => id) o2 fun k hk e => hA.ne.2.1 (by rw [hk, show k = h from e]), hA.ne, ⟨.inl hA.foot.1, .inl hA.foot.2.1, fun k hk => .inl (hA.foot.2.2 k hk)⟩, ⟨hA.ok.want, hA.ok.room, hA.ok.most⟩⟩, fun k hk => ?_, Nat.le_trans hB o3.size⟩, o3⟩
  rcases hk with hk | hk
  · exact ⟨(hF k hk).1, Nat.lt_of_lt_of_le (hF k hk).2 o3.size⟩
  · exact ⟨by omega, hk.2⟩
theorem Seal_shut (hh : IsHold B w F h s) (he : Errs B a0 a1 w) (h0 : s.shut = true) :
    Calls Tryd.prog 19 #[.pointer (some ⟨h, 0, none⟩)] w fun e w' => e = .returned (.tuple #[.bool false, .int .i64 190]) ∧ Did B w F h s w' := by
  have HO1 := Lib.hid (show Calls Tryd.prog 37 #[.pointer (some ⟨h, 0, none⟩)] w fun e w' => e = .returned (.iface 103 (.pointer (some a1))) ∧ w' = w from by
    have := open_any hh he
    unfold HS.open' at this
    rwa [h0] at this)
  have HH := Lib.hid hh
  have HE := Lib.hid he
  have hsame := Lib.hid (Did.same hh)
  clear hh he
  go_enter Tryd.func19, Tryd.ntmps19
  go_wp2_with (first
      | (go_at_call 37; refine HO1.out.mono ?_; rintro e w' ⟨rfl, rfl⟩)
      | (go_at_call 35; refine (number_any (B := B) (a0 := a0) (a1 := a1) 190 (.inr (.inr rfl)) _ HE.out).mono ?_; rintro e w2 ⟨rfl, ho2⟩))
  go_ret2
  exact ⟨rfl, hsame.out.then ho2 HH.out.base⟩
set_option maxHeartbeats 1600000 in
theorem Seal_open (hh : IsHold B w F h s) (he : Errs B a0 a1 w) (h0 : s.shut = false) :
    Calls Tryd.prog 19 #[.pointer (some ⟨h, 0, none⟩)] w fun e w' => e = .returned (.tuple #[.bool s.right, .int .i64 0]) ∧ Did B w F h { s with shut := s.right } w' := by
  have HO1 := Lib.hid (show Calls Tryd.prog 37 #[.pointer (some ⟨h, 0, none⟩)] w fun e w' => e = .returned .nilIface ∧ w' = w from by
    have := open_any hh he
    unfold HS.open' at this
    rwa [h0] at this)
  obtain ⟨g, x, hA⟩ := hh.at'
  have hr := hA.ok.room
  have hm := hA.ok.most
  have c1 : w.drew.cell? ⟨h, 1, none⟩ = _ := hA.c1
  have hwant : w.drew.rangeAt h 3 (BC s.want) := hA.want_at
  have hwl : (BC s.want).length = 32 := by rw [BC_length, hA.ok.want]
  have eqs : ∀ W, (Op.equalIn 10000 23 (.agg (BC (sha s.img)).toArray) (.agg (BC s.want).toArray)).run Tryd.prog W = .ok s.right W := fun W => equal32 W _ _ (sha_length _) hA.ok.want
  have hcall := hsum_any g s.img w.drew hA.hash (by omega)
  have HA := Lib.hid hA
  have HH := Lib.hid hh
  clear hh he hA
  go_enter Tryd.func19, Tryd.ntmps19
  go_upto_region 3 with (go_at_call 37; refine HO1.out.mono ?_; rintro e w' ⟨rfl, rfl⟩)
  refine wp_region_any (by kernel_rfl) ?_
  change wpAny _ _ _ _ _ _ _ (World.drew _)
  refine wpAny_take (i := 0) (v := ?_) rfl (by kernel_rfl) (by kernel_rfl) (by kernel_rfl) (fun _ _ _ h => h) (Or.inl ⟨by rfl, by intro w; go_simp; try (with_reducible rfl)⟩) ?_
  refine wpAny_take (i := 1) (v := ?_) rfl (by kernel_rfl) (by kernel_rfl) (by kernel_rfl) (fun _ _ _ h => h) (Or.inl ⟨by rfl, by intro w; go_simp; try (with_reducible rfl)⟩) ?_
  refine wpAny_take (i := 2) (v := ?_) rfl (by kernel_rfl) (by kernel_rfl) (by kernel_rfl) (fun _ _ _ h => h) (Or.inl ⟨by rfl, by intro w; go_simp; try (with_reducible rfl)⟩) ?_
  refine wpAny_take (i := 3) (v := ?_) rfl (by kernel_rfl) (by kernel_rfl) (by kernel_rfl) (fun _ _ _ h => h) (Or.inl ⟨by rfl, by intro w; go_simp; try (with_reducible rfl)⟩) ?_
  refine wpAny_take (i := 6) (v := ?_) rfl (by kernel_rfl) (by kernel_rfl) (by kernel_rfl) (fun _ _ _ h => h) (Or.inl ⟨by rfl, by intro w; go_simp; try (with_reducible rfl)⟩) ?_
  refine wpAny_take (i := 7) (v := ?_) rfl (by kernel_rfl) (by kernel_rfl) (by kernel_rfl) (fun _ _ _ h => h) (Or.inl ⟨by rfl, by intro w; go_simp; try (with_reducible rfl)⟩) ?_
  refine wpAny_take (i := 8) (v := ?_) rfl (by kernel_rfl) (by kernel_rfl) (by kernel_rfl) (fun _ _ _ h => h) (Or.inl ⟨by rfl, by intro w; go_simp; try (with_reducible rfl)⟩) ?_
  refine wpAny_act ⟨#[.pointer (some ⟨h, 0, none⟩), undef, .bool false, .int .i64 0, .nilIface, .pointer (some ⟨h, 0, none⟩), .nilIface, .nilIface, .bool false, undef, undef, .pointer (some ⟨h, 0, none⟩), .pointer (some ⟨h, 0, none⟩), .pointer (some ⟨h, 0, none⟩), .pointer (some ⟨h, 1, none⟩), undef, undef, .pointer (some ⟨h, 0, none⟩), .pointer (some ⟨h, 0, none⟩), .pointer (some ⟨h, 3, none⟩), undef, undef, undef, undef, undef, undef, undef, undef], []⟩ (by kernel_rfl) ?_
  refine wpAny_ready (rs := [4, 9]) (by kernel_rfl) (by simp) ?_
  refine AllReady.cons rfl (fun K hK => ?_) (AllReady.cons rfl (fun K hK => ?_) (AllReady.nil))
  · go_simp
    refine hK _ _ ?_
    clear hK K
    refine wpAny_ready (rs := [5, 9]) (by kernel_rfl) (by simp) ?_
    refine AllReady.cons rfl (fun K hK => ?_) (AllReady.cons rfl (fun K hK => ?_) (AllReady.nil))
    · go_simp
      go_at_call 38
      refine hcall.mono ?_
      rintro r w5 ⟨rfl, ho5⟩
      try go_simp
      try (refine hK _ _ ?_; clear hK K)
      refine wpAny_ready (rs := [9]) (by kernel_rfl) (by simp) ?_
      refine AllReady.cons rfl (fun K hK => ?_) AllReady.nil
      refine step_load_mid rfl 23 (.tmp 19) rfl h 3 rfl (BC s.want) _ (fun j v hj => ho5.cell (hwant j v hj) id) Tryd.underlying23 rfl (by rw [hwl]; kernel_rfl) ?_
      refine hK _ _ ?_
      clear hK K
      refine wpAny_ready (rs := [10]) (by kernel_rfl) (by simp) ?_
      refine AllReady.cons rfl (fun K hK => ?_) AllReady.nil
      have d35 := (ho5.blk HA.out.blk.drew id).cell 35
      rw [s.cells_shut g x HA.out.ok.want] at d35
      have f35 := (ho5.blk HA.out.blk.drew id).free 35
      go_simp
      refine hK _ _ ?_
      clear hK K
      refine wpAny_take (i := 11) (v := ?_) rfl (by kernel_rfl) (by kernel_rfl) (by kernel_rfl) (fun _ _ _ h => h) (Or.inl ⟨by rfl, by intro w; go_simp; try (with_reducible rfl)⟩) ?_
      refine wpAny_take (i := 12) (v := ?_) rfl (by kernel_rfl) (by kernel_rfl) (by kernel_rfl) (fun _ _ _ h => h) (Or.inl ⟨by rfl, by intro w; go_simp; try (with_reducible rfl)⟩) ?_
      refine wpAny_ready (rs := [13]) (by kernel_rfl) (by simp) ?_
      refine AllReady.cons rfl (fun K hK => ?_) AllReady.nil
      go_simp
      refine hK _ _ ?_
      clear hK K
      refine wpAny_done (by kernel_rfl) ?_ _
      have HD := Lib.hid (HA.out.sealTo HH.out.own HH.out.base (w1 := w5) ⟨ho5.os, ho5.tape, ho5.output, ho5.size, ho5.block⟩ s.right)
      clear ho5 hcall
      go_wp2
      go_ret2
      exact ⟨rfl, HD.out⟩
    · refine step_load_mid rfl 23 (.tmp 19) rfl h 3 rfl (BC s.want) _ hwant Tryd.underlying23 rfl (by rw [hwl]; kernel_rfl) ?_
      refine hK _ _ ?_
      clear hK K
      refine wpAny_ready (rs := [5]) (by kernel_rfl) (by simp) ?_
      refine AllReady.cons rfl (fun K hK => ?_) AllReady.nil
      go_simp
      go_at_call 38
      refine hcall.mono ?_
      rintro r w5 ⟨rfl, ho5⟩
      try go_simp
      try (refine hK _ _ ?_; clear hK K)
      refine wpAny_ready (rs := [10]) (by kernel_rfl) (by simp) ?_
      refine AllReady.cons rfl (fun K hK => ?_) AllReady.nil
      have d35 := (ho5.blk HA.out.blk.drew id).cell 35
      rw [s.cells_shut g x HA.out.ok.want] at d35
      have f35 := (ho5.blk HA.out.blk.drew id).free 35
      go_simp
      refine hK _ _ ?_
      clear hK K
      refine wpAny_take (i := 11) (v := ?_) rfl (by kernel_rfl) (by kernel_rfl) (by kernel_rfl) (fun _ _ _ h => h) (Or.inl ⟨by rfl, by intro w; go_simp; try (with_reducible rfl)⟩) ?_
      refine wpAny_take (i := 12) (v := ?_) rfl (by kernel_rfl) (by kernel_rfl) (by kernel_rfl) (fun _ _ _ h => h) (Or.inl ⟨by rfl, by intro w; go_simp; try (with_reducible rfl)⟩) ?_
      refine wpAny_ready (rs := [13]) (by kernel_rfl) (by simp) ?_
      refine AllReady.cons rfl (fun K hK => ?_) AllReady.nil
      go_simp
      refine hK _ _ ?_
      clear hK K
      refine wpAny_done (by kernel_rfl) ?_ _
      have HD := Lib.hid (HA.out.sealTo HH.out.own HH.out.base (w1 := w5) ⟨ho5.os, ho5.tape, ho5.output, ho5.size, ho5.block⟩ s.right)
      clear ho5 hcall
      go_wp2
      go_ret2
      exact ⟨rfl, HD.out⟩
  · refine step_load_mid rfl 23 (.tmp 19) rfl h 3 rfl (BC s.want) _ hwant Tryd.underlying23 rfl (by rw [hwl]; kernel_rfl) ?_
    refine hK _ _ ?_
    clear hK K
    refine wpAny_ready (rs := [4]) (by kernel_rfl) (by simp) ?_
    refine AllReady.cons rfl (fun K hK => ?_) AllReady.nil
    go_simp
    refine hK _ _ ?_
    clear hK K
    refine wpAny_ready (rs := [5]) (by kernel_rfl) (by simp) ?_
    refine AllReady.cons rfl (fun K hK => ?_) AllReady.nil
    go_simp
    go_at_call 38
    refine hcall.mono ?_
    rintro r w5 ⟨rfl, ho5⟩
    try go_simp
    try (refine hK _ _ ?_; clear hK K)
    refine wpAny_ready (rs := [10]) (by kernel_rfl) (by simp) ?_
    refine AllReady.cons rfl (fun K hK => ?_) AllReady.nil
    have d35 := (ho5.blk HA.out.blk.drew id).cell 35
    rw [s.cells_shut g x HA.out.ok.want] at d35
    have f35 := (ho5.blk HA.out.blk.drew id).free 35
    go_simp
    refine hK _ _ ?_
    clear hK K
    refine wpAny_take (i := 11) (v := ?_) rfl (by kernel_rfl) (by kernel_rfl) (by kernel_rfl) (fun _ _ _ h => h) (Or.inl ⟨by rfl, by intro w; go_simp; try (with_reducible rfl)⟩) ?_
    refine wpAny_take (i := 12) (v := ?_) rfl (by kernel_rfl) (by kernel_rfl) (by kernel_rfl) (fun _ _ _ h => h) (Or.inl ⟨by rfl, by intro w; go_simp; try (with_reducible rfl)⟩) ?_
    refine wpAny_ready (rs := [13]) (by kernel_rfl) (by simp) ?_
    refine AllReady.cons rfl (fun K hK => ?_) AllReady.nil
    go_simp
    refine hK _ _ ?_
    clear hK K
    refine wpAny_done (by kernel_rfl) ?_ _
    have HD := Lib.hid (HA.out.sealTo HH.out.own HH.out.base (w1 := w5) ⟨ho5.os, ho5.tape, ho5.output, ho5.size, ho5.block⟩ s.right)
    clear ho5 hcall
    go_wp2
    go_ret2
    exact ⟨rfl, HD.out⟩
theorem Seal_any (hh : IsHold B w F h s) (he : Errs B a0 a1 w) :
    Calls Tryd.prog 19 #[.pointer (some ⟨h, 0, none⟩)] w fun e w' => e = .returned (.tuple #[.bool (s.right && !s.shut), .int .i64 (s.open' : Int)]) ∧ Did B w F h s.sealed w' := by
  unfold HS.sealed HS.open'
  by_cases h0 : s.shut = true
  · simp only [h0, if_true, Bool.not_true, Bool.and_false]
    exact Seal_shut hh he h0
  · have h1 : s.shut = false := by simpa using h0
    rw [h1]
    simp only [Bool.false_eq_true, if_false, Bool.not_false, Bool.and_true]
    exact Seal_open hh he h1
/-- A slice that is a row of the call's own, or nil: bytes. -/
def OwnB (B : Nat) (w : World) (v : Value) (bs : List UInt8) : Prop := w.ownsRow B 5 1 v bs.length (BC bs)
theorem clone_any (v : Value) (bs : List UInt8) (hv : OwnB B w v bs) (hl : bs.length ≤ 140737488355328) :
    Calls Tryd.prog 42 #[v] w fun e w' => ∃ u, e = .returned u ∧ OwnB w.heap.size w' u bs ∧ Only Nil w w' := by
  rcases hv.2 with ⟨rfl, h0⟩ | ⟨g, cap, cur, rfl, hBg, hcur, hnc, hcm, hcs, htk⟩
  · obtain rfl : bs = [] := List.eq_nil_of_length_eq_zero h0
    have hq := fun W => Lib.run_eql_slice_nil_nil (P := Tryd.prog) W 0 0 Tryd.underlying26
    go_enter Tryd.func42, Tryd.ntmps42
    go_wp2
    go_ret
    exact ⟨_, rfl, ⟨rfl, .inl ⟨rfl, rfl⟩⟩, Only.refl _ _⟩
  · have hq := fun W => Lib.run_eql_slice_some_nil (P := Tryd.prog) W ⟨g, 0, none⟩ bs.length cap Tryd.underlying26
    have hb : RB w (.slice (some ⟨g, 0, none⟩) bs.length cap) bs := by
      refine ⟨_, cap, rfl, hnc, fun _ => ⟨g, 0, rfl, fun j hj => ?_⟩⟩
      have := World.ownsRow.cells hv (g := g) rfl j _ (BC_get bs j hj)
      rwa [Addr.add_mid] at this
    obtain ⟨ib, hib, hbz, hbs, hbb⟩ := info_parts info_byte
    have HB := Lib.hid hb
    clear hv hcur hcs htk hb
    obtain ⟨n, hn⟩ : ∃ b, w.heap.size = b := ⟨_, rfl⟩
    have hrow : (w.alloc (.cells #[] 5)).ownsRow n 5 1 (.slice (some ⟨n, 0, none⟩) 0 0) 0 [] := ⟨rfl, .inr ⟨n, 0, #[], rfl, Nat.le_refl _, hn ▸ heap_alloc_new w _, Nat.le_refl _, by decide, rfl, rfl⟩⟩
    have HR := Lib.hid hrow
    have HN := Lib.hid hn
    clear hrow
    go_enter Tryd.func42, Tryd.ntmps42
    go_wp2_with ((with_reducible show wpList _ _ _ (Oper.mk _ (.call { callee := .builtin .append, args := _, argTypes := _ }) _ _ _ _ :: _) _ _); refine wpList_append_bytes rfl (.tmp 5) (.tmp 6) 26 rfl n 5 ib (.int .u8 0) Tryd.underlying26 hib hbz hbs hbb rfl (.slice (some ⟨n, 0, none⟩) 0 0) 0 [] (by rw [← hn]; rfl) HR.out (.slice (some ⟨g, 0, none⟩) bs.length cap) rfl bs (HB.out.alloc _) (by omega) (by simp; omega) ?_; intro v' w3 hw1 hw2 hw3)
    go_ret
    refine ⟨_, rfl, by rw [hn]; simpa [OwnB] using hw1, ?_⟩
    exact ((Only.refl Nil w).alloc _).trans (Only.of_grown (S := fun k => k = n) hw2 fun k hk => .inl (by simpa [Value.ownBlock] using hk.symm)) fun k hk => .inr (by rw [hn, hk]; exact Nat.le_refl _)
/-- What comes out: a row of its own, or nil. -/
theorem Bytes_any (hh : IsHold B w F h s) :
    Calls Tryd.prog 21 #[.pointer (some ⟨h, 0, none⟩)] w fun e w' => ∃ u, e = .returned u ∧ OwnB w.heap.size w' u s.img ∧ Only Nil w w' := by
  obtain ⟨g, x, hA⟩ := hh.at'
  have hr := hA.ok.room
  have hm := hA.ok.most
  have c0 := hA.c0
  have hc := clone_any x s.img hA.row (by omega)
  clear hh hA
  go_enter Tryd.func21, Tryd.ntmps21
  go_wp2_with (go_at_call 42; refine hc.mono ?_; rintro e w' ⟨u, rfl, h1, h2⟩)
  go_ret
  exact ⟨u, rfl, h1, h2⟩
theorem OwnB.nil (B : Nat) (w : World) : OwnB B w (.slice none 0 0) [] := ⟨rfl, .inl ⟨rfl, rfl⟩⟩
theorem Record_any (hh : IsHold B w F h s) :
    Calls Tryd.prog 9 #[.pointer (some ⟨h, 0, none⟩)] w fun e w' => ∃ u, e = .returned (.tuple #[u, .bool s.shut]) ∧ OwnB w.heap.size w' u (if s.shut then s.img else []) ∧ Only Nil w w' := by
  have hB := Lib.hid (Bytes_any hh)
  obtain ⟨g, x, hA⟩ := hh.at'
  have c35 := hA.c35
  clear hh hA
  by_cases h0 : s.shut = true
  · rw [h0] at c35 ⊢
    simp only [if_true]
    go_enter Tryd.func9, Tryd.ntmps9
    go_wp2_with (go_at_call 21; refine hB.out.mono ?_; rintro e w' ⟨u, rfl, h1, h2⟩)
    go_ret2
    exact ⟨u, rfl, h1, h2⟩
  · have h1 : s.shut = false := by simpa using h0
    rw [h1] at c35 ⊢
    simp only [Bool.false_eq_true, if_false]
    go_enter Tryd.func9, Tryd.ntmps9
    go_wp2
    go_ret2
    exact ⟨_, rfl, OwnB.nil _ _, Only.refl _ _⟩
end
/-! ## New -/
theorem New_none (most : Int) (want : List UInt8) (hm : most < 0 ∨ 16777216 < most) (w : World) :
    Calls Tryd.prog 8 #[.int .i64 most, .agg (BC want).toArray] w fun e w' => e = .returned (.pointer none) ∧ Only Nil w w' := by
  go_enter Tryd.func8, Tryd.ntmps8
  go_wp2
  all_goals go_ret
  all_goals exact ⟨rfl, (Only.refl _ _).alloc _⟩
theorem New_fin (most : Int) (want : List UInt8) (hw : want.length = 32) (h0 : 0 ≤ most) (hm : most ≤ 16777216) {w w1 : World} {B : Nat} (hB : B ≤ w.heap.size) (h1 : Only Nil w w1) (hs : w1.heap.size = w.heap.size + 1 + 1) (hash : HashAt w1 (w.heap.size + 1) []) {w2 : World}
    (h2 : w2 = w1.alloc (.cells ((⟨[], most, want, false⟩ : HS).cells (w.heap.size + 1) (.slice none 0 0)).toArray 57)) :
    IsHold B w2 (fun k => w.heap.size ≤ k ∧ k < w2.heap.size) (w.heap.size + 1 + 1) ⟨[], most, want, false⟩ ∧ Only Nil w w2 ∧ w.heap.size ≤ w.heap.size + 1 + 1 := by
  have ho : Only Nil w1 w2 := h2 ▸ (Only.refl _ _).alloc _
  have hz : w2.heap.size = w.heap.size + 1 + 1 + 1 := by rw [h2, World.size_alloc, hs]
  have hb : Blk w2 (w.heap.size + 1 + 1) 57 ((⟨[], most, want, false⟩ : HS).cells (w.heap.size + 1) (.slice none 0 0)) := by
    have := Blk.new w1 57 ((⟨[], most, want, false⟩ : HS).cells (w.heap.size + 1) (.slice none 0 0))
    rw [hs] at this
    rw [h2]
    exact this
  refine ⟨⟨⟨w.heap.size + 1, .slice none 0 0, hb, hash.only ho id, ⟨rfl, .inl ⟨rfl, rfl⟩⟩, ⟨by omega, by simp [Value.ownBlock], by simp [Value.ownBlock]⟩, ⟨⟨by omega, by omega⟩, ⟨by omega, by omega⟩, fun k hk => by cases hk⟩, ⟨hw, by simpa using h0, hm⟩⟩, fun k hk => ⟨by omega, hk.2⟩, by omega⟩, h1.then ho, by omega⟩
set_option maxHeartbeats 1600000 in
theorem New_some (most : Int) (want : List UInt8) (hw : want.length = 32) (h0 : 0 ≤ most) (hm : most ≤ 16777216) (w : World) (B : Nat) (hB : B ≤ w.heap.size) :
    Calls Tryd.prog 8 #[.int .i64 most, .agg (BC want).toArray] w fun e w' => ∃ h, e = .returned (.pointer (some ⟨h, 0, none⟩)) ∧ IsHold B w' (fun k => w.heap.size ≤ k ∧ k < w'.heap.size) h ⟨[], most, want, false⟩ ∧ Only Nil w w' ∧ w.heap.size ≤ h := by
  rcases want with _ | ⟨b0, want⟩
  · simp at hw
  rcases want with _ | ⟨b1, want⟩
  · simp at hw
  rcases want with _ | ⟨b2, want⟩
  · simp at hw
  rcases want with _ | ⟨b3, want⟩
  · simp at hw
  rcases want with _ | ⟨b4, want⟩
  · simp at hw
  rcases want with _ | ⟨b5, want⟩
  · simp at hw
  rcases want with _ | ⟨b6, want⟩
  · simp at hw
  rcases want with _ | ⟨b7, want⟩
  · simp at hw
  rcases want with _ | ⟨b8, want⟩
  · simp at hw
  rcases want with _ | ⟨b9, want⟩
  · simp at hw
  rcases want with _ | ⟨b10, want⟩
  · simp at hw
  rcases want with _ | ⟨b11, want⟩
  · simp at hw
  rcases want with _ | ⟨b12, want⟩
  · simp at hw
  rcases want with _ | ⟨b13, want⟩
  · simp at hw
  rcases want with _ | ⟨b14, want⟩
  · simp at hw
  rcases want with _ | ⟨b15, want⟩
  · simp at hw
  rcases want with _ | ⟨b16, want⟩
  · simp at hw
  rcases want with _ | ⟨b17, want⟩
  · simp at hw
  rcases want with _ | ⟨b18, want⟩
  · simp at hw
  rcases want with _ | ⟨b19, want⟩
  · simp at hw
  rcases want with _ | ⟨b20, want⟩
  · simp at hw
  rcases want with _ | ⟨b21, want⟩
  · simp at hw
  rcases want with _ | ⟨b22, want⟩
  · simp at hw
  rcases want with _ | ⟨b23, want⟩
  · simp at hw
  rcases want with _ | ⟨b24, want⟩
  · simp at hw
  rcases want with _ | ⟨b25, want⟩
  · simp at hw
  rcases want with _ | ⟨b26, want⟩
  · simp at hw
  rcases want with _ | ⟨b27, want⟩
  · simp at hw
  rcases want with _ | ⟨b28, want⟩
  · simp at hw
  rcases want with _ | ⟨b29, want⟩
  · simp at hw
  rcases want with _ | ⟨b30, want⟩
  · simp at hw
  rcases want with _ | ⟨b31, want⟩
  · simp at hw
  obtain rfl : want = [] := List.eq_nil_of_length_eq_zero (by simp only [List.length_cons] at hw; omega)
  clear hw
  show Calls _ _ #[.int .i64 most, .agg #[.int .u8 (by8 b0), .int .u8 (by8 b1), .int .u8 (by8 b2), .int .u8 (by8 b3), .int .u8 (by8 b4), .int .u8 (by8 b5), .int .u8 (by8 b6), .int .u8 (by8 b7), .int .u8 (by8 b8), .int .u8 (by8 b9), .int .u8 (by8 b10), .int .u8 (by8 b11), .int .u8 (by8 b12), .int .u8 (by8 b13), .int .u8 (by8 b14), .int .u8 (by8 b15), .int .u8 (by8 b16), .int .u8 (by8 b17), .int .u8 (by8 b18), .int .u8 (by8 b19), .int .u8 (by8 b20), .int .u8 (by8 b21), .int .u8 (by8 b22), .int .u8 (by8 b23), .int .u8 (by8 b24), .int .u8 (by8 b25), .int .u8 (by8 b26), .int .u8 (by8 b27), .int .u8 (by8 b28), .int .u8 (by8 b29), .int .u8 (by8 b30), .int .u8 (by8 b31)]] _ _
  obtain ⟨n, hn⟩ : ∃ b, w.heap.size = b := ⟨_, rfl⟩
  have d1 : decide (most < 0) = false := by simp; omega
  have d2 : decide (16777216 < most) = false := by simp; omega
  have HB := Lib.hid (show Blk (w.alloc (.cells #[.int .u8 (by8 b0), .int .u8 (by8 b1), .int .u8 (by8 b2), .int .u8 (by8 b3), .int .u8 (by8 b4), .int .u8 (by8 b5), .int .u8 (by8 b6), .int .u8 (by8 b7), .int .u8 (by8 b8), .int .u8 (by8 b9), .int .u8 (by8 b10), .int .u8 (by8 b11), .int .u8 (by8 b12), .int .u8 (by8 b13), .int .u8 (by8 b14), .int .u8 (by8 b15), .int .u8 (by8 b16), .int .u8 (by8 b17), .int .u8 (by8 b18), .int .u8 (by8 b19), .int .u8 (by8 b20), .int .u8 (by8 b21), .int .u8 (by8 b22), .int .u8 (by8 b23), .int .u8 (by8 b24), .int .u8 (by8 b25), .int .u8 (by8 b26), .int .u8 (by8 b27), .int .u8 (by8 b28), .int .u8 (by8 b29), .int .u8 (by8 b30), .int .u8 (by8 b31)] 23)).drew n 23 [.int .u8 (by8 b0), .int .u8 (by8 b1), .int .u8 (by8 b2), .int .u8 (by8 b3), .int .u8 (by8 b4), .int .u8 (by8 b5), .int .u8 (by8 b6), .int .u8 (by8 b7), .int .u8 (by8 b8), .int .u8 (by8 b9), .int .u8 (by8 b10), .int .u8 (by8 b11), .int .u8 (by8 b12), .int .u8 (by8 b13), .int .u8 (by8 b14), .int .u8 (by8 b15), .int .u8 (by8 b16), .int .u8 (by8 b17), .int .u8 (by8 b18), .int .u8 (by8 b19), .int .u8 (by8 b20), .int .u8 (by8 b21), .int .u8 (by8 b22), .int .u8 (by8 b23), .int .u8 (by8 b24), .int .u8 (by8 b25), .int .u8 (by8 b26), .int .u8 (by8 b27), .int .u8 (by8 b28), .int .u8 (by8 b29), .int .u8 (by8 b30), .int .u8 (by8 b31)] from hn ▸ Blk.new w _ _)
  go_enter Tryd.func8, Tryd.ntmps8
  go_upto_region 2 with fail
  (try rw [hn])
  refine wp_region_any (by kernel_rfl) ?_
  change wpAny _ _ _ _ _ _ _ (World.drew _)
  refine wpAny_take (i := 1) (v := ?_) rfl (by kernel_rfl) (by kernel_rfl) (by kernel_rfl) (fun _ _ _ h => h) (Or.inl ⟨by rfl, by intro w; go_simp; try (with_reducible rfl)⟩) ?_
  refine wpAny_ready (rs := [0, 2]) (by kernel_rfl) (by simp) ?_
  refine AllReady.cons rfl (fun K hK => ?_) (AllReady.cons rfl (fun K hK => ?_) AllReady.nil)
  · go_simp
    go_at_call 23
    refine (new_any _).mono ?_
    rintro r w5 ⟨rfl, rfl⟩
    try go_simp
    try (refine hK _ _ ?_; clear hK K)
    refine wpAny_ready (rs := [2]) (by kernel_rfl) (by simp) ?_
    refine AllReady.cons rfl (fun K hK => ?_) AllReady.nil
    refine step_load_row rfl 23 (.tmp 3) rfl n rfl 23 #[.int .u8 (by8 b0), .int .u8 (by8 b1), .int .u8 (by8 b2), .int .u8 (by8 b3), .int .u8 (by8 b4), .int .u8 (by8 b5), .int .u8 (by8 b6), .int .u8 (by8 b7), .int .u8 (by8 b8), .int .u8 (by8 b9), .int .u8 (by8 b10), .int .u8 (by8 b11), .int .u8 (by8 b12), .int .u8 (by8 b13), .int .u8 (by8 b14), .int .u8 (by8 b15), .int .u8 (by8 b16), .int .u8 (by8 b17), .int .u8 (by8 b18), .int .u8 (by8 b19), .int .u8 (by8 b20), .int .u8 (by8 b21), .int .u8 (by8 b22), .int .u8 (by8 b23), .int .u8 (by8 b24), .int .u8 (by8 b25), .int .u8 (by8 b26), .int .u8 (by8 b27), .int .u8 (by8 b28), .int .u8 (by8 b29), .int .u8 (by8 b30), .int .u8 (by8 b31)] (0, 0) _ (HB.out.alloc _) Tryd.underlying23 rfl (by kernel_rfl) ?_
    refine hK _ _ ?_
    clear hK K
    refine wpAny_ready (rs := [3]) (by kernel_rfl) (by simp) ?_
    refine AllReady.cons rfl (fun K hK => ?_) AllReady.nil
    go_simp
    refine hK _ _ ?_
    clear hK K
    refine wpAny_ready (rs := [4]) (by kernel_rfl) (by simp) ?_
    refine AllReady.cons rfl (fun K hK => ?_) AllReady.nil
    go_simp
    refine hK _ _ ?_
    clear hK K
    refine wpAny_ready (rs := [5]) (by kernel_rfl) (by simp) ?_
    refine AllReady.cons rfl (fun K hK => ?_) AllReady.nil
    go_simp
    refine hK _ _ ?_
    clear hK K
    refine wpAny_done (by kernel_rfl) ?_ _
    go_wp2
    go_ret
    subst hn
    refine ⟨_, rfl, New_fin most _ rfl h0 hm hB (((Only.refl Nil w).alloc _).drew.alloc _) ?_ ?_ rfl⟩
    · simp
    · have := HashAt.new (w.alloc (.cells #[.int .u8 (by8 b0), .int .u8 (by8 b1), .int .u8 (by8 b2), .int .u8 (by8 b3), .int .u8 (by8 b4), .int .u8 (by8 b5), .int .u8 (by8 b6), .int .u8 (by8 b7), .int .u8 (by8 b8), .int .u8 (by8 b9), .int .u8 (by8 b10), .int .u8 (by8 b11), .int .u8 (by8 b12), .int .u8 (by8 b13), .int .u8 (by8 b14), .int .u8 (by8 b15), .int .u8 (by8 b16), .int .u8 (by8 b17), .int .u8 (by8 b18), .int .u8 (by8 b19), .int .u8 (by8 b20), .int .u8 (by8 b21), .int .u8 (by8 b22), .int .u8 (by8 b23), .int .u8 (by8 b24), .int .u8 (by8 b25), .int .u8 (by8 b26), .int .u8 (by8 b27), .int .u8 (by8 b28), .int .u8 (by8 b29), .int .u8 (by8 b30), .int .u8 (by8 b31)] 23)).drew
      simpa using this
  · refine step_load_row rfl 23 (.tmp 3) rfl n rfl 23 #[.int .u8 (by8 b0), .int .u8 (by8 b1), .int .u8 (by8 b2), .int .u8 (by8 b3), .int .u8 (by8 b4), .int .u8 (by8 b5), .int .u8 (by8 b6), .int .u8 (by8 b7), .int .u8 (by8 b8), .int .u8 (by8 b9), .int .u8 (by8 b10), .int .u8 (by8 b11), .int .u8 (by8 b12), .int .u8 (by8 b13), .int .u8 (by8 b14), .int .u8 (by8 b15), .int .u8 (by8 b16), .int .u8 (by8 b17), .int .u8 (by8 b18), .int .u8 (by8 b19), .int .u8 (by8 b20), .int .u8 (by8 b21), .int .u8 (by8 b22), .int .u8 (by8 b23), .int .u8 (by8 b24), .int .u8 (by8 b25), .int .u8 (by8 b26), .int .u8 (by8 b27), .int .u8 (by8 b28), .int .u8 (by8 b29), .int .u8 (by8 b30), .int .u8 (by8 b31)] (0, 0) _ HB.out Tryd.underlying23 rfl (by kernel_rfl) ?_
    refine hK _ _ ?_
    clear hK K
    refine wpAny_ready (rs := [0]) (by kernel_rfl) (by simp) ?_
    refine AllReady.cons rfl (fun K hK => ?_) AllReady.nil
    go_simp
    go_at_call 23
    refine (new_any _).mono ?_
    rintro r w5 ⟨rfl, rfl⟩
    try go_simp
    try (refine hK _ _ ?_; clear hK K)
    refine wpAny_ready (rs := [3]) (by kernel_rfl) (by simp) ?_
    refine AllReady.cons rfl (fun K hK => ?_) AllReady.nil
    go_simp
    refine hK _ _ ?_
    clear hK K
    refine wpAny_ready (rs := [4]) (by kernel_rfl) (by simp) ?_
    refine AllReady.cons rfl (fun K hK => ?_) AllReady.nil
    go_simp
    refine hK _ _ ?_
    clear hK K
    refine wpAny_ready (rs := [5]) (by kernel_rfl) (by simp) ?_
    refine AllReady.cons rfl (fun K hK => ?_) AllReady.nil
    go_simp
    refine hK _ _ ?_
    clear hK K
    refine wpAny_done (by kernel_rfl) ?_ _
    go_wp2
    go_ret
    subst hn
    refine ⟨_, rfl, New_fin most _ rfl h0 hm hB (((Only.refl Nil w).alloc _).drew.alloc _) ?_ ?_ rfl⟩
    · simp
    · have := HashAt.new (w.alloc (.cells #[.int .u8 (by8 b0), .int .u8 (by8 b1), .int .u8 (by8 b2), .int .u8 (by8 b3), .int .u8 (by8 b4), .int .u8 (by8 b5), .int .u8 (by8 b6), .int .u8 (by8 b7), .int .u8 (by8 b8), .int .u8 (by8 b9), .int .u8 (by8 b10), .int .u8 (by8 b11), .int .u8 (by8 b12), .int .u8 (by8 b13), .int .u8 (by8 b14), .int .u8 (by8 b15), .int .u8 (by8 b16), .int .u8 (by8 b17), .int .u8 (by8 b18), .int .u8 (by8 b19), .int .u8 (by8 b20), .int .u8 (by8 b21), .int .u8 (by8 b22), .int .u8 (by8 b23), .int .u8 (by8 b24), .int .u8 (by8 b25), .int .u8 (by8 b26), .int .u8 (by8 b27), .int .u8 (by8 b28), .int .u8 (by8 b29), .int .u8 (by8 b30), .int .u8 (by8 b31)] 23)).drew
      simpa using this
end Go.Proofs.YthkongkbefpilaaDoor
