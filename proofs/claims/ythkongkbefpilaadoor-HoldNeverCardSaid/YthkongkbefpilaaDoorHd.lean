/-
  A hold under way in a call ('St'), and the walk of live.
-/
import Derived.Test.YthkongkbefpilaaDoorHc
namespace Go.Proofs.YthkongkbefpilaaDoor
set_option maxRecDepth 100000
open Go.RowKit Sha

theorem parts_one {W : World} {v : Value} {bs : List UInt8} {g : Nat} {t : TypeId} {fr : Nat × Nat} (hr : RB W v bs) (hb : W.heap[g]? = some (.cells #[v] t fr)) : Parts W (.slice (some ⟨g, 0, none⟩) 1 1) [v] [bs] := by
  refine ⟨⟨_, 1, rfl, Nat.le_refl _, fun _ => ⟨g, 0, rfl, fun j hj => ?_⟩⟩, rfl, fun j hj => ?_⟩
  · have : j = 0 := by simp at hj; omega
    subst this
    rw [cell_of_row W g 0 _ _ _ hb]
    rfl
  · have : j = 0 := by simp at hj; omega
    subst this
    exact hr
theorem Errs.up {B B' : Nat} {a0 a1 : Addr} {w : World} (h : Errs B a0 a1 w) (hB : B ≤ B') : Errs B' a0 a1 w := ⟨h.full, h.shut, h.ne, h.row0, h.row1, by have := h.lt; omega⟩
/-- A hold that this call has made. -/
structure St (a0 a1 : Addr) (w : World) (h : Nat) (s : HS) (W : World) : Prop where
  hold : ∃ F, IsHold w.heap.size W F h s
  errs : Errs w.heap.size a0 a1 W
  only : Only Nil w W
section
variable {a0 a1 : Addr} {w W0 W1 W : World} {h : Nat} {s : HS}
theorem St.more (hs : St a0 a1 w h s W0) (ho : Only Nil W0 W1) : St a0 a1 w h s W1 := by
  obtain ⟨⟨F, hF⟩, he, h1⟩ := hs
  exact ⟨⟨F, hF.only ho fun _ _ => id⟩, he.only ho (fun _ e => e.elim), h1.then ho⟩
theorem St.did {s' : HS} {F : Nat → Prop} (hF : IsHold w.heap.size W0 F h s) (he : Errs w.heap.size a0 a1 W0) (h1 : Only Nil w W0) (hd : Did w.heap.size W0 F h s' W1) : St a0 a1 w h s' W1 :=
  ⟨⟨_, hd.hold⟩, he.only hd.only fun k hk => (hF.own k hk).1, h1.trans hd.only fun k hk => .inr (hF.own k hk).1⟩
theorem St.add (hs : St a0 a1 w h s W0) (ho : Only Nil W0 W1) (v : Value) (bs : List UInt8) (hb : RB W1 v bs) (hd : 0 < bs.length → ∀ k, blkOf v = some k → W0.heap.size ≤ k ∨ k < w.heap.size) :
    Calls Tryd.prog 17 #[.pointer (some ⟨h, 0, none⟩), v] W1 fun e w' => e = .returned (.int .i64 (s.add bs : Int)) ∧ St a0 a1 w h (s.added bs) w' := by
  obtain ⟨⟨F, hF⟩, he, h1⟩ := hs
  refine (Add_any (hF.only ho fun _ _ => id) (he.only ho fun _ e => e.elim) v bs hb fun h0 k hk hf => ?_).mono fun e w' ⟨e1, d⟩ => ⟨e1, St.did (hF.only ho fun _ _ => id) (he.only ho fun _ e => e.elim) (h1.then ho) d⟩
  have := hF.own k hf
  rcases hd h0 k hk with e | e <;> omega
theorem St.addN (hs : St a0 a1 w h s W0) (ho : Only Nil W0 W1) (v : Value) (bs : List UInt8) (hb : RB W1 v bs) (hd : 0 < bs.length → ∀ k, blkOf v = some k → W0.heap.size ≤ k ∨ k < w.heap.size) (n : Nat) (s' : HS) (h1 : s.add bs = n) (h2 : s.added bs = s') :
    Calls Tryd.prog 17 #[.pointer (some ⟨h, 0, none⟩), v] W1 fun e w' => e = .returned (.int .i64 (n : Int)) ∧ St a0 a1 w h s' w' := by
  subst h1 h2
  exact hs.add ho v bs hb hd
theorem St.reset (hs : St a0 a1 w h s W) :
    Calls Tryd.prog 18 #[.pointer (some ⟨h, 0, none⟩)] W fun e w' => e = .returned (.int .i64 (s.open' : Int)) ∧ St a0 a1 w h s.cleared w' := by
  obtain ⟨⟨F, hF⟩, he, h1⟩ := hs
  exact (Reset_any hF he).mono fun e w' ⟨e1, d⟩ => ⟨e1, St.did hF he h1 d⟩
theorem St.sealTo (hs : St a0 a1 w h s W) :
    Calls Tryd.prog 19 #[.pointer (some ⟨h, 0, none⟩)] W fun e w' => e = .returned (.tuple #[.bool (s.right && !s.shut), .int .i64 (s.open' : Int)]) ∧ St a0 a1 w h s.sealed w' := by
  obtain ⟨⟨F, hF⟩, he, h1⟩ := hs
  exact (Seal_any hF he).mono fun e w' ⟨e1, d⟩ => ⟨e1, St.did hF he h1 d⟩
theorem St.record (hs : St a0 a1 w h s W) :
    Calls Tryd.prog 9 #[.pointer (some ⟨h, 0, none⟩)] W fun e w' => ∃ u, e = .returned (.tuple #[u, .bool s.shut]) ∧ OwnB W.heap.size w' u (if s.shut then s.img else []) ∧ St a0 a1 w h s w' := by
  have hs' := hs
  obtain ⟨⟨F, hF⟩, _, _⟩ := hs'
  exact (Record_any hF).mono fun e w' ⟨u, e1, e2, e3⟩ => ⟨u, e1, e2, hs.more e3⟩
theorem St.bytes (hs : St a0 a1 w h s W) :
    Calls Tryd.prog 21 #[.pointer (some ⟨h, 0, none⟩)] W fun e w' => ∃ u, e = .returned u ∧ OwnB W.heap.size w' u s.img ∧ St a0 a1 w h s w' := by
  have hs' := hs
  obtain ⟨⟨F, hF⟩, _, _⟩ := hs'
  exact (Bytes_any hF).mono fun e w' ⟨u, e1, e2, e3⟩ => ⟨u, e1, e2, hs.more e3⟩
theorem St.len (hs : St a0 a1 w h s W) : Calls Tryd.prog 11 #[.pointer (some ⟨h, 0, none⟩)] W fun e w' => e = .returned (.int .i64 (s.img.length : Int)) ∧ w' = W := by
  obtain ⟨⟨F, hF⟩, _, _⟩ := hs
  exact len_any hF
theorem St.most (hs : St a0 a1 w h s W) : Calls Tryd.prog 10 #[.pointer (some ⟨h, 0, none⟩)] W fun e w' => e = .returned (.int .i64 s.most) ∧ w' = W := by
  obtain ⟨⟨F, hF⟩, _, _⟩ := hs
  exact most_any hF
theorem St.sum (hs : St a0 a1 w h s W) : Calls Tryd.prog 22 #[.pointer (some ⟨h, 0, none⟩)] W fun e w' => e = .returned (.agg (BC (sha s.img)).toArray) ∧ St a0 a1 w h s w' := by
  have hs' := hs
  obtain ⟨⟨F, hF⟩, _, _⟩ := hs'
  exact (hold_sum_any hF).mono fun e w' ⟨e1, e2⟩ => ⟨e1, hs.more e2⟩
theorem St.room (hs : St a0 a1 w h s W) : s.Ok := by
  obtain ⟨⟨F, hF⟩, _, _⟩ := hs
  obtain ⟨g, x, hA⟩ := hF.at'
  exact hA.ok
theorem St.reset_shut (hs : St a0 a1 w h s W) (h0 : s.shut = true) :
    Calls Tryd.prog 18 #[.pointer (some ⟨h, 0, none⟩)] W fun e w' => e = .returned (.int .i64 190) ∧ Only Nil W w' := by
  obtain ⟨⟨F, hF⟩, he, _⟩ := hs
  have HO1 := Lib.hid (show Calls Tryd.prog 37 #[.pointer (some ⟨h, 0, none⟩)] W fun e w' => e = .returned (.iface 103 (.pointer (some a1))) ∧ w' = W from by
    have := open_any hF he
    unfold HS.open' at this
    rwa [h0] at this)
  have HE := Lib.hid he
  clear hF he
  go_enter Tryd.func18, Tryd.ntmps18
  go_wp2_with (first
      | (go_at_call 37; refine HO1.out.mono ?_; rintro e w' ⟨rfl, rfl⟩)
      | (go_at_call 35; refine (number_any (B := w.heap.size) (a0 := a0) (a1 := a1) 190 (.inr (.inr rfl)) _ HE.out).mono ?_; rintro e w2 ⟨rfl, ho2⟩))
  go_ret
  exact ⟨rfl, ho2⟩
theorem OwnB.reads {B : Nat} {v : Value} {bs : List UInt8} (hv : OwnB B W v bs) : RB W v bs := by
  rcases hv.2 with ⟨rfl, h0⟩ | ⟨g, cap, cur, rfl, hBg, hcur, hnc, hcm, hcs, htk⟩
  · obtain rfl : bs = [] := List.eq_nil_of_length_eq_zero h0
    exact RB.nil _ _ _
  · refine ⟨_, cap, rfl, hnc, fun _ => ⟨g, 0, rfl, fun j hj => ?_⟩⟩
    have := World.ownsRow.cells hv (g := g) rfl j _ (BC_get bs j hj)
    rwa [Addr.add_mid] at this
end
/-- hold.New, in a call. -/
theorem St.new_some {a0 a1 : Addr} {w W : World} (he : Errs w.heap.size a0 a1 W) (ho : Only Nil w W) (most : Int) (want : List UInt8) (hw : want.length = 32) (h0 : 0 ≤ most) (hm : most ≤ 16777216) :
    Calls Tryd.prog 8 #[.int .i64 most, .agg (BC want).toArray] W fun e w' => ∃ h, e = .returned (.pointer (some ⟨h, 0, none⟩)) ∧ St a0 a1 w h ⟨[], most, want, false⟩ w' := by
  refine (New_some most want hw h0 hm W w.heap.size ho.size).mono fun e w' ⟨h, e1, e2, e3, _⟩ => ⟨h, e1, ⟨_, e2⟩, he.only e3 (fun _ e => e.elim), ho.then e3⟩
theorem live_any {a0 a1 : Addr} (w : World) (he : Errs w.heap.size a0 a1 w) : Calls Tryd.prog 7 #[] w fun e w' => e = .returned (.bool true) ∧ Only Nil w w' := by
  have HE := Lib.hid he
  clear he
  obtain ⟨n, hn⟩ : ∃ b, w.heap.size = b := ⟨_, rfl⟩
  have q1 := lit_conv w #[.int .u8 97, .int .u8 98, .int .u8 99] 3 4 n rfl rfl hn.symm
  have HP := Lib.hid (show Parts ((w.alloc (.cells #[.int .u8 97, .int .u8 98, .int .u8 99] 5 (3, 4))).alloc (.cells #[.slice (some ⟨n, 0, none⟩) 3 3] 26)) (.slice (some ⟨n + 1, 0, none⟩) 1 1) [.slice (some ⟨n, 0, none⟩) 3 3] [[97, 98, 99]] from by
    refine parts_one (t := 26) (fr := (0, 0)) ((RB_row (W := w.alloc (.cells #[.int .u8 97, .int .u8 98, .int .u8 99] 5 (3, 4))) (g := n) (bs := [97, 98, 99]) (fr := (3, 4)) (t := 5) (hn ▸ heap_alloc_new w _) 3).alloc _) ?_
    have := heap_alloc_new (w.alloc (.cells #[.int .u8 97, .int .u8 98, .int .u8 99] 5 (3, 4))) (.cells #[.slice (some ⟨n, 0, none⟩) 3 3] 26)
    rw [World.size_alloc, hn] at this
    exact this)
  go_enter Tryd.func7, Tryd.ntmps7
  go_upto_region 3 with (first
    | (go_at_call 20; refine (rsum_any _ _ [[97, 98, 99]] _ HP.out (by decide) (by simp)).mono ?_; rintro e w3 ⟨rfl, ho3⟩)
    | (go_at_call 8; refine (St.new_some (w := w) (a0 := a0) (a1 := a1) (HE.out.only (((Only.refl Nil _).alloc _).alloc _ |>.then ho3) (fun _ e => e.elim)) ((((Only.refl Nil _).alloc _).alloc _).then ho3) 4 _ (sha_length _) (by decide) (by decide)).mono ?_; rintro e w4 ⟨h, rfl, hs4⟩))
  clear ho3 HP HE q1
  have H4 := Lib.hid hs4
  have q4 := lit_conv w4 #[.int .u8 97, .int .u8 98] 2 3 _ rfl rfl rfl
  clear hs4
  go_upto_region 6 with (go_at_call 17; refine (H4.out.addN ((Only.refl _ _).alloc _) _ [97, 98] (RB_row (bs := [97, 98]) (heap_alloc_new w4 _) 2) (fun _ k hk => .inl (by simp [blkOf] at hk; omega)) 0 ⟨[97, 98], 4, sha [97, 98, 99], false⟩ (by simp [HS.add]) (by simp [HS.added, HS.add])).mono ?_; rintro e w5 ⟨rfl, hs5⟩)
  clear q4 H4
  have H5 := Lib.hid hs5
  have q5 := lit_conv w5 #[.int .u8 99, .int .u8 100, .int .u8 101] 3 4 _ rfl rfl rfl
  clear hs5
  go_upto_region 7 with (go_at_call 17; refine (H5.out.addN ((Only.refl _ _).alloc _) _ [99, 100, 101] (RB_row (bs := [99, 100, 101]) (heap_alloc_new w5 _) 3) (fun _ k hk => .inl (by simp [blkOf] at hk; omega)) 3 ⟨[97, 98], 4, sha [97, 98, 99], false⟩ (by simp [HS.add]) (by simp [HS.added, HS.add])).mono ?_; rintro e w6 ⟨rfl, hs6⟩)
  clear q5 H5
  have H6 := Lib.hid hs6
  have q6 := lit_conv w6 #[.int .u8 99] 1 2 _ rfl rfl rfl
  clear hs6
  go_upto_region 8 with (go_at_call 17; refine (H6.out.addN ((Only.refl _ _).alloc _) _ [99] (RB_row (bs := [99]) (heap_alloc_new w6 _) 1) (fun _ k hk => .inl (by simp [blkOf] at hk; omega)) 0 ⟨[97, 98, 99], 4, sha [97, 98, 99], false⟩ (by simp [HS.add]) (by simp [HS.added, HS.add])).mono ?_; rintro e w7 ⟨rfl, hs7⟩)
  clear q6 H6
  have H7 := Lib.hid hs7
  clear hs7
  have hr : (⟨[97, 98, 99], 4, sha [97, 98, 99], false⟩ : HS).right = true := by simp [HS.right]
  go_upto_region 9 with (go_at_call 9; refine H7.out.record.mono ?_; rintro e w8 ⟨u8, rfl, ho8, hs8⟩)
  have H8 := Lib.hid hs8
  clear hs8 ho8 H7
  have hsl := H8.out.sealTo
  rw [hr] at hsl
  have HSL := Lib.hid (show Calls Tryd.prog 19 #[.pointer (some ⟨h, 0, none⟩)] w8 fun e w' => e = .returned (.tuple #[.bool true, .int .i64 0]) ∧ St a0 a1 w h ⟨[97, 98, 99], 4, sha [97, 98, 99], true⟩ w' from hsl.mono fun e w' ⟨e1, e2⟩ => ⟨e1, by
    have : HS.sealed ⟨[97, 98, 99], 4, sha [97, 98, 99], false⟩ = ⟨[97, 98, 99], 4, sha [97, 98, 99], true⟩ := by unfold HS.sealed; rw [hr]; rfl
    rwa [this] at e2⟩)
  clear hsl
  go_upto_region 10 with (go_at_call 19; refine HSL.out.mono ?_; rintro e w9 ⟨rfl, hs9⟩)
  have H9 := Lib.hid hs9
  clear hs9 HSL H8 hr
  go_upto_region 11 with (go_at_call 9; refine H9.out.record.mono ?_; rintro e w10 ⟨u10, rfl, ho10, hs10⟩)
  have H10 := Lib.hid hs10
  have HR := Lib.hid (show RB w10 u10 [97, 98, 99] from ho10.reads)
  clear hs10 H9 ho10
  obtain ⟨A, c, rfl, _⟩ := HR.out.form
  go_upto_region 12 with (go_at_call 18; refine (H10.out.reset_shut rfl).mono ?_; rintro e w11 ⟨rfl, ho11⟩)
  have H11 := Lib.hid (H10.out.more ho11)
  have hstr : (convert 26 9 (.slice A 3 c)).run Tryd.prog w11 = .ok (.string ⟨#[97, 98, 99]⟩) w11 := str_of (P := Tryd.prog) (src := 26) (e := 5) (dst := 9) Tryd.underlying26 Tryd.underlying5 Tryd.underlying9 (bs := [97, 98, 99]) (HR.out.only ho11 fun _ _ => id)
  clear H10 HR ho11
  go_wp2_with (first
    | (go_at_call 11; refine H11.out.len.mono ?_; rintro e w12 ⟨rfl, rfl⟩)
    | (go_at_call 10; refine H11.out.most.mono ?_; rintro e w12 ⟨rfl, rfl⟩))
  go_ret
  exact ⟨rfl, H11.out.only⟩
theorem numbers_any {a0 a1 : Addr} (w : World) (he : Errs w.heap.size a0 a1 w) : Calls Tryd.prog 3 #[] w fun e w' => e = .returned (.bool true) ∧ Only Nil w w' := by
  go_enter Tryd.func3, Tryd.ntmps3
  go_wp2_with (go_at_call 7; refine (live_any _ he).mono ?_; rintro e w' ⟨rfl, ho⟩)
  go_ret
  exact ⟨rfl, ho⟩
theorem makes_any {a0 a1 : Addr} (most : Int) (want : List UInt8) (hw : want.length = 32) (w : World) (he : Errs w.heap.size a0 a1 w) : Calls Tryd.prog 4 #[.int .i64 most, .agg (BC want).toArray] w fun e w' => e = .returned (.bool true) ∧ Only Nil w w' := by
  have HE := Lib.hid he
  clear he
  have hz : (BC want).toArray.size = 32 := by rw [List.size_toArray, BC_length, hw]
  obtain ⟨n, hn⟩ : ∃ b, w.heap.size = b := ⟨_, rfl⟩
  have HL := Lib.hid (live_any (a0 := a0) (a1 := a1) (w.alloc (.cells (BC want).toArray 23)) ((HE.out.only ((Only.refl Nil w).alloc _) fun _ e => e.elim).up (by simp)))
  have HB0 := Lib.hid (show Blk (w.alloc (.cells (BC want).toArray 23)) n 23 (BC want) from hn ▸ Blk.new w _ _)
  by_cases hm : 0 ≤ most ∧ most ≤ 16777216
  · have d1 : decide (most < 0) = false := by simp; omega
    have d2 : decide (16777216 < most) = false := by simp; omega
    have d3 : decide (0 ≤ most) = true := by simp; omega
    have d4 : decide (most ≤ 16777216) = true := by simp; omega
    go_enter Tryd.func4, Tryd.ntmps4
    go_upto_region 2 with (go_at_call 7; refine HL.out.mono ?_; rintro e w1 ⟨rfl, ho1⟩)
    have HB := Lib.hid (ho1.blk HB0.out id)
    have HO := Lib.hid (((Only.refl Nil w).alloc (.cells (BC want).toArray 23)).then ho1)
    clear HL ho1 HB0
    go_upto_region 3 with (first
      | ((with_reducible show wpList _ _ _ (Oper.mk _ (.load 23 _) _ _ _ _ :: _) _ _); refine wpList_load_row rfl 23 (.tmp 3) rfl n rfl 23 (BC want).toArray (0, 0) _ HB.out Tryd.underlying23 rfl (by rw [hz]; kernel_rfl) ?_)
      | (go_at_call 8; refine (St.new_some (w := w) (a0 := a0) (a1 := a1) (HE.out.only HO.out (fun _ e => e.elim)) HO.out most want hw hm.1 hm.2).mono ?_; rintro e w2 ⟨h, rfl, hs2⟩))
    have H2 := Lib.hid hs2
    clear hs2 HB HO HE
    go_upto_region 6 with (go_at_call 9; refine H2.out.record.mono ?_; rintro e w3 ⟨u, rfl, ho3, hs3⟩)
    have H3 := Lib.hid hs3
    have hr : RB w3 u [] := ho3.reads
    obtain ⟨A, c, rfl, _⟩ := hr.form
    clear hs3 H2 hr ho3
    go_wp2_with (first
      | (go_at_call 11; refine H3.out.len.mono ?_; rintro e w12 ⟨rfl, rfl⟩)
      | (go_at_call 10; refine H3.out.most.mono ?_; rintro e w12 ⟨rfl, rfl⟩))
    all_goals (go_ret; exact ⟨rfl, H3.out.only⟩)
  · have hm' : most < 0 ∨ 16777216 < most := by omega
    go_enter Tryd.func4, Tryd.ntmps4
    go_upto_region 2 with (go_at_call 7; refine HL.out.mono ?_; rintro e w1 ⟨rfl, ho1⟩)
    have HB := Lib.hid (ho1.blk HB0.out id)
    have HO := Lib.hid (((Only.refl Nil w).alloc (.cells (BC want).toArray 23)).then ho1)
    clear HL ho1 HB0
    go_upto_region 3 with (first
      | ((with_reducible show wpList _ _ _ (Oper.mk _ (.load 23 _) _ _ _ _ :: _) _ _); refine wpList_load_row rfl 23 (.tmp 3) rfl n rfl 23 (BC want).toArray (0, 0) _ HB.out Tryd.underlying23 rfl (by rw [hz]; kernel_rfl) ?_)
      | (go_at_call 8; refine (New_none most want hm' _).mono ?_; rintro e w2 ⟨rfl, ho2⟩))
    go_wp2
    all_goals go_ret
    all_goals exact ⟨by first | rfl | (simp; omega), HO.out.then ho2⟩
end Go.Proofs.YthkongkbefpilaaDoor
