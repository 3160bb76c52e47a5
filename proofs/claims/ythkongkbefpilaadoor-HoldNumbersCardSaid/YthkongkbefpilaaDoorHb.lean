/-
  A hold in memory, and the walks of its methods (1): open, add, Add, Reset.
-/
import Derived.Test.YthkongkbefpilaaDoorHa
import Derived.Deep.MidRow
import Derived.BigQuiet
import Derived.Maps.AppendAt
namespace Go.Proofs.YthkongkbefpilaaDoor
set_option maxRecDepth 100000
open Go.RowKit Sha

section
variable {P : Program} {w : World}
/-- An append of bytes to a row of the call's own, from whatever slice. -/
theorem run_append_bytes (B : Nat) (t ty e : TypeId) (i : TypeInfo) (z : Value) (ht : P.underlying t = some (.slice e)) (hi : P.info? e = some i) (hz : i.zero = some z)
    (hsize : i.size = 1) (hby : i.bytes = 1) (hzs : z.cells.size = 1)
    (v : Value) (n : Nat) (xs : List Value) (hown : w.ownsRow B e 1 v n xs) (u : Value) (bs : List UInt8) (hb : RB w u bs) (h63 : n + bs.length ≤ 140737488355328) (hbase : B ≤ w.heap.size) :
    ∃ v' w', (Builtin.append_ #[t, t] ty #[v, u]).run P w = .ok v' w' ∧ w'.ownsRow B e 1 v' (n + bs.length) (xs ++ BC bs) ∧ w.grownBy w' v.ownBlock ∧ (v'.ownBlock = v.ownBlock ∨ v'.ownBlock = some w.heap.size) := by
  obtain ⟨A, c, rfl, hc, hr⟩ := hb
  cases A with
  | none =>
    have h0 : bs = [] := List.eq_nil_of_length_eq_zero (by
      rcases Nat.eq_zero_or_pos bs.length with h | h
      · exact h
      · obtain ⟨g, o, e, _⟩ := hr h
        cases e)
    subst h0
    refine ⟨v, w, ?_, by simpa [BC] using hown, ⟨rfl, rfl, rfl, Nat.le_refl _, fun _ _ _ => rfl⟩, .inl rfl⟩
    rcases hown.2 with ⟨rfl, rfl⟩ | ⟨g, cap, cur, rfl, _, _, hnc, _⟩
    · simp [Builtin.append_, run_underlying ht, sizeOf, typeInfo, hi, Builtin.lenOf, Builtin.firstCells]
    · simp [Builtin.append_, run_underlying ht, sizeOf, typeInfo, hi, Builtin.lenOf, Builtin.firstCells, hnc, storeCells]
  | some a =>
    have hm : maxLen = 9223372036854775807 := rfl
    obtain ⟨v', w', h1, h2, h3, _, h5⟩ := run_append_own_at (P := P) (w := w) B t ty e i z 1 1 ht hi hz hsize hby hzs (by decide) v n xs hown a bs.length c (BC bs) (by rw [BC_length]; omega) (by
      intro j u hu
      have hj : j < bs.length := by have := (List.getElem?_eq_some_iff.1 hu).1; rwa [BC_length] at this
      rw [BC_get _ _ hj] at hu
      obtain ⟨g, o, e1, hc1⟩ := hr (by omega)
      obtain rfl := Option.some.inj e1
      rw [Addr.add_mid]
      exact (hc1 j hj).trans hu) (BC_one bs) (by omega) (by omega) hbase
    exact ⟨v', w', h1, h2, h3, h5⟩
theorem wpList_append_bytes {ops : Array Oper} {rest : List Oper} {o : Oper} {a : Act} {Q : Exit → Act → World → Prop} (hgd : o.guard = none) (s x : Operand) (t : TypeId)
    (ho : o.op = .call { callee := .builtin .append, args := #[s, x], argTypes := #[t, t] })
    (B : Nat) (e : TypeId) (i : TypeInfo) (z : Value) (ht : P.underlying t = some (.slice e)) (hi : P.info? e = some i) (hz : i.zero = some z)
    (hsize : i.size = 1) (hby : i.bytes = 1) (hzs : z.cells.size = 1)
    (v : Value) (n : Nat) (xs : List Value) (hs : a.eval s = v) (hown : w.ownsRow B e 1 v n xs) (u : Value) (hx : a.eval x = u) (bs : List UInt8) (hb : RB w u bs) (h63 : n + bs.length ≤ 140737488355328) (hbase : B ≤ w.heap.size)
    (h : ∀ v' w', w'.ownsRow B e 1 v' (n + bs.length) (xs ++ BC bs) → w.grownBy w' v.ownBlock → (v'.ownBlock = v.ownBlock ∨ v'.ownBlock = some w.heap.size) → wpList P ops Q rest (a.put o.dst v') w') : wpList P ops Q (o :: rest) a w := by
  refine wpList_plain hgd fun _ hK => ?_
  obtain ⟨v', w', hrun, h1, h2, h3⟩ := run_append_bytes (P := P) (w := w) B t o.type e i z ht hi hz hsize hby hzs v n xs hown u bs hb h63 hbase
  unfold Oper.wp
  simp [execOp, ho, resolve, invoke, builtin, hs, hx, hrun, Result.andThen]
  exact hK _ _ (h v' w' h1 h2 h3)
end

/-! ## What a hold is -/
structure HS where
  img : List UInt8
  most : Int
  want : List UInt8
  shut : Bool
def HS.add (s : HS) (bs : List UInt8) : Nat := if s.shut then 190 else if s.most - s.img.length < bs.length then 3 else 0
def HS.added (s : HS) (bs : List UInt8) : HS := if s.add bs = 0 then { s with img := s.img ++ bs } else s
def HS.open' (s : HS) : Nat := if s.shut then 190 else 0
def HS.cleared (s : HS) : HS := if s.shut then s else { s with img := [] }
def HS.right (s : HS) : Bool := sha s.img == s.want
def HS.sealed (s : HS) : HS := if s.shut then s else { s with shut := s.right }
structure HS.Ok (s : HS) : Prop where
  want : s.want.length = 32
  room : (s.img.length : Int) ≤ s.most
  most : s.most ≤ 16777216
theorem HS.Ok.added {s : HS} (h : s.Ok) (bs : List UInt8) : (s.added bs).Ok := by
  unfold HS.added
  split
  · rename_i h0
    unfold HS.add at h0
    split at h0
    · simp at h0
    · split at h0
      · simp at h0
      · refine ⟨h.want, ?_, h.most⟩
        simp only [List.length_append]
        omega
  · exact h
theorem HS.Ok.cleared {s : HS} (h : s.Ok) : s.cleared.Ok := by
  unfold HS.cleared
  split
  · exact h
  · exact ⟨h.want, by have := h.room; simp; omega, h.most⟩
theorem HS.Ok.sealed {s : HS} (h : s.Ok) : s.sealed.Ok := by
  unfold HS.sealed
  split
  · exact h
  · exact ⟨h.want, h.room, h.most⟩
def HS.cells (s : HS) (g : Nat) (x : Value) : List Value := x :: .pointer (some ⟨g, 0, none⟩) :: .int .i64 s.most :: (BC s.want ++ [.bool s.shut])
structure HoldAt (B : Nat) (w : World) (F : Nat → Prop) (h g : Nat) (x : Value) (s : HS) : Prop where
  blk : Blk w h 57 (s.cells g x)
  hash : HashAt w g s.img
  row : w.ownsRow B 5 1 x s.img.length (BC s.img)
  ne : h ≠ g ∧ x.ownBlock ≠ some h ∧ x.ownBlock ≠ some g
  foot : F h ∧ F g ∧ ∀ k, x.ownBlock = some k → F k
  ok : s.Ok
/-- The hold at block h; F: blocks that are its own. -/
structure IsHold (B : Nat) (w : World) (F : Nat → Prop) (h : Nat) (s : HS) : Prop where
  at' : ∃ g x, HoldAt B w F h g x s
  own : ∀ k, F k → B ≤ k ∧ k < w.heap.size
  base : B ≤ w.heap.size
/-- F, and all that is new since a world of n blocks. -/
def Wide (F : Nat → Prop) (w w' : World) : Nat → Prop := fun k => F k ∨ (w.heap.size ≤ k ∧ k < w'.heap.size)
theorem IsHold.only {B : Nat} {w w' : World} {F S : Nat → Prop} {h : Nat} {s : HS} (hh : IsHold B w F h s) (ho : Only S w w') (hS : ∀ k, F k → ¬ S k) : IsHold B w' F h s := by
  obtain ⟨⟨g, x, hb, h2, h3, h4, h5, h6⟩, hF, hB⟩ := hh
  exact ⟨⟨g, x, ho.blk hb (hS _ h5.1), h2.only ho (hS _ h5.2.1), own_only h3 ho fun k hk => hS _ (h5.2.2 k hk), h4, h5, h6⟩, fun k hk => ⟨(hF k hk).1, Nat.lt_of_lt_of_le (hF k hk).2 ho.size⟩, Nat.le_trans hB ho.size⟩
theorem IsHold.wide {B : Nat} {w0 w : World} {F : Nat → Prop} {h : Nat} {s : HS} (hh : IsHold B w F h s) (h0 : B ≤ w0.heap.size) : IsHold B w (Wide F w0 w) h s := by
  obtain ⟨⟨g, x, hb, h2, h3, h4, h5, h6⟩, hF, hB⟩ := hh
  exact ⟨⟨g, x, hb, h2, h3, h4, ⟨.inl h5.1, .inl h5.2.1, fun k hk => .inl (h5.2.2 k hk)⟩, h6⟩, fun k hk => hk.elim (hF k) fun e => ⟨Nat.le_trans h0 e.1, e.2⟩, hB⟩
theorem HS.cells_shut (s : HS) (g : Nat) (x : Value) (h : s.want.length = 32) : (s.cells g x)[35]? = some (.bool s.shut) := by
  unfold HS.cells
  have : (BC s.want).length = 32 := by rw [BC_length, h]
  simp [this]
theorem HS.cells_want (s : HS) (g : Nat) (x : Value) (j : Nat) (v : Value) (hj : (BC s.want)[j]? = some v) : (s.cells g x)[3 + j]? = some v := by
  unfold HS.cells
  have h1 : j < (BC s.want).length := (List.getElem?_eq_some_iff.1 hj).1
  rw [show 3 + j = j + 1 + 1 + 1 by omega]
  simp [List.getElem?_append_left h1, hj]
section
variable {B : Nat} {a0 a1 : Addr} {w : World} {F : Nat → Prop} {h g : Nat} {x : Value} {s : HS}
theorem HoldAt.c0 (hh : HoldAt B w F h g x s) : w.cell? ⟨h, 0, none⟩ = some x := hh.blk.cell 0
theorem HoldAt.c1 (hh : HoldAt B w F h g x s) : w.cell? ⟨h, 1, none⟩ = some (.pointer (some ⟨g, 0, none⟩)) := hh.blk.cell 1
theorem HoldAt.c2 (hh : HoldAt B w F h g x s) : w.cell? ⟨h, 2, none⟩ = some (.int .i64 s.most) := hh.blk.cell 2
theorem HoldAt.c35 (hh : HoldAt B w F h g x s) : w.cell? ⟨h, 35, none⟩ = some (.bool s.shut) := (hh.blk.cell 35).trans (s.cells_shut g x hh.ok.want)
theorem open_any (hh : IsHold B w F h s) (he : Errs B a0 a1 w) : Calls Tryd.prog 37 #[.pointer (some ⟨h, 0, none⟩)] w fun e w' => e = .returned (ev a0 a1 s.open') ∧ w' = w := by
  obtain ⟨g, x, hh⟩ := hh.at'
  have c35 := hh.c35
  have k1 := he.shut
  clear hh he
  unfold HS.open'
  obtain ⟨b, hb⟩ : ∃ b, s.shut = b := ⟨_, rfl⟩
  rw [hb] at c35 ⊢
  cases b
  · go_enter Tryd.func37, Tryd.ntmps37
    go_wp2
    go_ret
    exact ⟨rfl, rfl⟩
  · go_enter Tryd.func37, Tryd.ntmps37
    go_wp2
    go_ret
    exact ⟨rfl, rfl⟩
theorem len_any (hh : IsHold B w F h s) : Calls Tryd.prog 11 #[.pointer (some ⟨h, 0, none⟩)] w fun e w' => e = .returned (.int .i64 (s.img.length : Int)) ∧ w' = w := by
  obtain ⟨g, x, hh⟩ := hh.at'
  have c0 := hh.c0
  obtain ⟨A, c, e, _⟩ := own_reads hh.row
  rw [BC_length] at e
  subst e
  clear hh
  go_enter Tryd.func11, Tryd.ntmps11
  go_wp2
  go_ret
  exact ⟨rfl, rfl⟩
theorem most_any (hh : IsHold B w F h s) : Calls Tryd.prog 10 #[.pointer (some ⟨h, 0, none⟩)] w fun e w' => e = .returned (.int .i64 s.most) ∧ w' = w := by
  obtain ⟨g, x, hh⟩ := hh.at'
  have c2 := hh.c2
  clear hh
  go_enter Tryd.func10, Tryd.ntmps10
  go_wp2
  go_ret
  exact ⟨rfl, rfl⟩
theorem hold_sum_any (hh : IsHold B w F h s) : Calls Tryd.prog 22 #[.pointer (some ⟨h, 0, none⟩)] w fun e w' => e = .returned (.agg (BC (sha s.img)).toArray) ∧ Only Nil w w' := by
  obtain ⟨g, x, hh⟩ := hh.at'
  have c1 := hh.c1
  have hH := Lib.hid hh.hash
  have hr := hh.ok.room
  have hm := hh.ok.most
  clear hh
  have hz : (BC (sha s.img)).toArray.size = 32 := by rw [List.size_toArray, BC_length, sha_length]
  obtain ⟨o, ho⟩ : ∃ b, w.heap.size = b := ⟨_, rfl⟩
  go_enter Tryd.func22, Tryd.ntmps22
  go_upto_region 1 with fail
  (try rw [ho])
  refine wp_gen (fun W => W.cell? ⟨h, 1, none⟩ = some (.pointer (some ⟨g, 0, none⟩)) ∧ HashAt W g s.img ∧ Only Nil w W ∧ Blk W o 23 (BC (List.replicate 32 0))) ⟨((Only.refl Nil w).alloc _).cell c1 id, hH.out.only ((Only.refl Nil _).alloc _) id, (Only.refl Nil _).alloc _, ho ▸ Blk.new w _ (BC (List.replicate 32 0))⟩ ?_
  clear c1 hH
  intro w1 ⟨c1, hH1, hO1, hB1⟩
  have HH := Lib.hid hH1
  have HO := Lib.hid hO1
  have HB := Lib.hid hB1
  clear hH1 hO1 hB1
  go_wp2_with (first
    | (go_at_call 38; refine (hsum_any g s.img _ HH.out (by omega)).mono ?_; rintro e w3 ⟨rfl, ho3⟩)
    | ((with_reducible show wpList _ _ _ (Oper.mk _ (.store 23 _ _) _ _ _ _ :: _) _ _); refine wpList_store_row rfl 23 (.tmp 2) (.tmp 7) rfl o (BC (sha s.img)).toArray rfl rfl _ _ (ho3.blk HB.out id) (by rw [hz]; kernel_rfl) (by rw [hz]; rfl) (all_oneCell_toArray (BC_one _)) ?_))
  refine bodyPost_ret (results_cell_row rfl _ _ o 23 (BC (sha s.img)).toArray (0, 0) _ rfl (setRow_heap _ _ _ _ _ _ (ho3.blk HB.out id)) Tryd.underlying23 rfl (by rw [hz]; kernel_rfl)) rfl ⟨rfl, (HO.out.then ho3).setRow (.inr (by omega)) _⟩
/-- A hold is changed: its own blocks, and what is new. -/
structure Did (B : Nat) (w : World) (F : Nat → Prop) (h : Nat) (s' : HS) (w' : World) : Prop where
  hold : IsHold B w' (Wide F w w') h s'
  only : Only F w w'
theorem Did.same (hh : IsHold B w F h s) : Did B w F h s w := ⟨hh.wide hh.base, Only.refl _ _⟩
theorem Errs.did {s' : HS} {w' : World} (he : Errs B a0 a1 w) (hh : IsHold B w F h s) (hd : Did B w F h s' w') : Errs B a0 a1 w' := he.only hd.only fun k hk => (hh.own k hk).1
theorem HS.cells_set (s : HS) (g : Nat) (x v : Value) : (s.cells g x).set 0 v = s.cells g v := rfl
theorem HoldAt.grown {v' : Value} {bs : List UInt8} {w3 w5 : World} (hA : HoldAt B w F h g x s) (hF : ∀ k, F k → B ≤ k ∧ k < w.heap.size) (hB : B ≤ w.heap.size)
    (h1 : w3.ownsRow B 5 1 v' (s.img.length + bs.length) (BC s.img ++ BC bs)) (h2 : w.grownBy w3 x.ownBlock) (h3 : v'.ownBlock = x.ownBlock ∨ v'.ownBlock = some w.heap.size) (hfit : ((s.img ++ bs).length : Int) ≤ s.most)
    (hh : HashAt w5 g (s.img ++ bs)) (ho : Only (One g) (w3.setCell ⟨h, 0, none⟩ v') w5) : Did B w F h { s with img := s.img ++ bs } w5 := by
  have hs : h < w.heap.size := hA.blk.lt
  have hgs : g < w.heap.size := hA.hash.lt
  have o3 : Only F w w3 := Only.of_grown h2 fun k hk => .inl (hA.foot.2.2 k hk)
  have o4 : Only F w (w3.setCell ⟨h, 0, none⟩ v') := o3.setCell (.inl hA.foot.1) _
  have o5 : Only F w w5 := o4.trans ho fun k hk => .inl (by rw [show k = g from hk]; exact hA.foot.2.1)
  have vne : v'.ownBlock ≠ some h ∧ v'.ownBlock ≠ some g := by
    rcases h3 with e | e
    · rw [e]; exact hA.ne.2
    · rw [e]
      exact ⟨fun e => by injection e with e; omega, fun e => by injection e with e; omega⟩
  have b3 : Blk w3 h 57 (s.cells g x) := (Only.of_grown (S := fun k => x.ownBlock = some k) h2 fun k hk => .inl hk).blk hA.blk hA.ne.2.1
  have b4 : Blk (w3.setCell ⟨h, 0, none⟩ v') h 57 (s.cells g v') := b3.set 0 v'
  have b5 : Blk w5 h 57 (s.cells g v') := ho.blk b4 hA.ne.1
  have r4 : (w3.setCell ⟨h, 0, none⟩ v').ownsRow B 5 1 v' (s.img.length + bs.length) (BC s.img ++ BC bs) := own_only h1 ((Only.refl (One h) w3).setCell (p := ⟨h, 0, none⟩) (.inl rfl) v') fun k hk e => vne.1 (by rw [hk, show k = h from e])
  have r5 : w5.ownsRow B 5 1 v' (s.img.length + bs.length) (BC s.img ++ BC bs) := own_only r4 ho fun k hk e => vne.2 (by rw [hk, show k = g from e])
  have hlen : (s.img ++ bs).length = s.img.length + bs.length := List.length_append
  refine ⟨⟨⟨g, v', b5, hh, by rw [hlen, BC_append]; exact r5, ⟨hA.ne.1, vne.1, vne.2⟩, ⟨.inl hA.foot.1, .inl hA.foot.2.1, fun k hk => ?_⟩, ⟨hA.ok.want, hfit, hA.ok.most⟩⟩, fun k hk => ?_, Nat.le_trans hB o5.size⟩, o5⟩
  · rcases h3 with e | e
    · exact .inl (hA.foot.2.2 k (e ▸ hk))
    · rw [e] at hk
      injection hk with hk
      refine .inr ⟨by omega, ?_⟩
      have := (own_block h1 k (by rw [e, hk])).2
      have := ho.size
      simp [World.setCell] at this
      omega
  · rcases hk with hk | hk
    · exact ⟨(hF k hk).1, Nat.lt_of_lt_of_le (hF k hk).2 o5.size⟩
    · exact ⟨by omega, hk.2⟩
theorem add_shut (hh : IsHold B w F h s) (he : Errs B a0 a1 w) (v : Value) (h0 : s.shut = true) :
    Calls Tryd.prog 36 #[.pointer (some ⟨h, 0, none⟩), v] w fun e w' => e = .returned (.iface 103 (.pointer (some a1))) ∧ Did B w F h s w' := by
  have HO := Lib.hid (show Calls Tryd.prog 37 #[.pointer (some ⟨h, 0, none⟩)] w fun e w' => e = .returned (.iface 103 (.pointer (some a1))) ∧ w' = w from by
    have := open_any hh he
    unfold HS.open' at this
    rwa [h0] at this)
  have hsame := Lib.hid (Did.same hh)
  clear hh he
  go_enter Tryd.func36, Tryd.ntmps36
  go_wp2_with (go_at_call 37; refine HO.out.mono ?_; rintro e w' ⟨rfl, rfl⟩)
  go_ret
  exact ⟨rfl, hsame.out⟩
theorem add_full (hh : IsHold B w F h s) (he : Errs B a0 a1 w) (v : Value) (bs : List UInt8) (hb : RB w v bs) (h0 : s.shut = false) (hfit : s.most - (s.img.length : Int) < bs.length) :
    Calls Tryd.prog 36 #[.pointer (some ⟨h, 0, none⟩), v] w fun e w' => e = .returned (.iface 103 (.pointer (some a0))) ∧ Did B w F h s w' := by
  have hsame := Lib.hid (Did.same hh)
  obtain ⟨g, x, hA⟩ := hh.at'
  have c0 := hA.c0
  have c1 := hA.c1
  have c2 := hA.c2
  obtain ⟨A, c, rfl, hc⟩ := hb.form
  obtain ⟨Ax, cx, ex, _⟩ := own_reads hA.row
  rw [BC_length] at ex
  subst ex
  have hr := hA.ok.room
  have hm := hA.ok.most
  have HA := Lib.hid hA
  have HO := Lib.hid (show Calls Tryd.prog 37 #[.pointer (some ⟨h, 0, none⟩)] w fun e w' => e = .returned .nilIface ∧ w' = w from by
    have := open_any hh he
    unfold HS.open' at this
    rwa [h0] at this)
  have k0 := he.full
  have hov : IntKind.i64.wrap (s.most - (s.img.length : Int)) = s.most - s.img.length := IntWalk.i64_in _ (by omega)
  have HH := Lib.hid hh
  have HHB := Lib.hid hb
  clear hA hh hb he
  go_enter Tryd.func36, Tryd.ntmps36
  go_upto_region 3 with (go_at_call 37; refine HO.out.mono ?_; rintro e w' ⟨rfl, rfl⟩)
  go_quiet (fail)
  go_wp2
  go_ret
  exact ⟨rfl, hsame.out.hold.only ((Only.refl Nil _).drewN _) (fun _ _ => id), hsame.out.only.drewN _⟩
theorem add_fits (hh : IsHold B w F h s) (he : Errs B a0 a1 w) (v : Value) (bs : List UInt8) (hb : RB w v bs) (hd : 0 < bs.length → ∀ k, blkOf v = some k → ¬ F k) (h0 : s.shut = false) (hfit : ¬ s.most - (s.img.length : Int) < bs.length) :
    Calls Tryd.prog 36 #[.pointer (some ⟨h, 0, none⟩), v] w fun e w' => e = .returned .nilIface ∧ Did B w F h { s with img := s.img ++ bs } w' := by
  obtain ⟨ib, hib, hbz, hbs, hbb⟩ := info_parts info_byte
  obtain ⟨g, x, hA⟩ := hh.at'
  have c0 := hA.c0
  have c1 := hA.c1
  have c2 := hA.c2
  obtain ⟨A, c, rfl, hc⟩ := hb.form
  obtain ⟨Ax, cx, ex, _⟩ := own_reads hA.row
  rw [BC_length] at ex
  subst ex
  have hr := hA.ok.room
  have hm := hA.ok.most
  have HA := Lib.hid hA
  have HO := Lib.hid (show Calls Tryd.prog 37 #[.pointer (some ⟨h, 0, none⟩)] w fun e w' => e = .returned .nilIface ∧ w' = w from by
    have := open_any hh he
    unfold HS.open' at this
    rwa [h0] at this)
  have k0 := he.full
  have hov : IntKind.i64.wrap (s.most - (s.img.length : Int)) = s.most - s.img.length := IntWalk.i64_in _ (by omega)
  have HH := Lib.hid hh
  have HHB := Lib.hid hb
  clear hA hh hb he
  go_enter Tryd.func36, Tryd.ntmps36
  go_upto_region 3 with (go_at_call 37; refine HO.out.mono ?_; rintro e w' ⟨rfl, rfl⟩)
  have hdec : decide (s.most - (s.img.length : Int) < bs.length) = false := by simp; omega
  go_quiet (fail)
  go_wp2_with (first
        | ((with_reducible show wpList _ _ _ (Oper.mk _ (.call { callee := .builtin .append, args := _, argTypes := _ }) _ _ _ _ :: _) _ _); refine wpList_append_bytes rfl (.tmp 29) (.tmp 30) 26 rfl B 5 ib (.int .u8 0) Tryd.underlying26 hib hbz hbs hbb rfl (.slice Ax s.img.length cx) s.img.length (BC s.img) rfl HA.out.row (.slice A bs.length c) rfl bs HHB.out (by omega) HH.out.base ?_; intro v' w3 hw1 hw2 hw3; obtain ⟨A', c', e', hrd'⟩ := own_reads hw1; clear hrd'; rw [List.length_append, BC_length, BC_length] at e'; rw [e'] at hw1 hw3 ⊢; clear e' v'; have f0 : w3.frozen? ⟨h, 0, none⟩ = false := (((Only.of_grown (S := fun k => (Value.slice Ax s.img.length cx).ownBlock = some k) hw2 fun k hk => .inl hk).blk HA.out.blk HA.out.ne.2.1)).free 0; have d0 : w3.cell? ⟨h, 0, none⟩ = some (.slice Ax s.img.length cx) := (((Only.of_grown (S := fun k => (Value.slice Ax s.img.length cx).ownBlock = some k) hw2 fun k hk => .inl hk).blk HA.out.blk HA.out.ne.2.1)).cell 0; have d1 : w3.cell? ⟨h, 1, none⟩ = some (.pointer (some ⟨g, 0, none⟩)) := (((Only.of_grown (S := fun k => (Value.slice Ax s.img.length cx).ownBlock = some k) hw2 fun k hk => .inl hk).blk HA.out.blk HA.out.ne.2.1)).cell 1)
        | (go_at_call 44; refine (write_ok g s.img bs _ _ ?_ ?_ ?_ (by omega)).mono ?_; rotate_left 3; rintro e w5 ⟨rfl, hh5, ho5⟩))
  · go_ret
    exact ⟨rfl, HA.out.grown HH.out.own HH.out.base hw1 ⟨hw2.os, hw2.tape, hw2.output, hw2.size, hw2.block⟩ hw3 (by simp only [List.length_append]; omega) hh5 ho5⟩
  · exact (HA.out.hash.only (Only.of_grown (S := fun k => (Value.slice Ax s.img.length cx).ownBlock = some k) (show World.grownBy _ w3 _ from ⟨hw2.os, hw2.tape, hw2.output, hw2.size, hw2.block⟩) fun k hk => .inl hk) HA.out.ne.2.2).only ((Only.refl (One h) _).setCell (p := ⟨h, 0, none⟩) (.inl rfl) _) (fun e => HA.out.ne.1 e.symm)
  · exact (HHB.out.off (Only.of_grown (S := fun k => (Value.slice Ax s.img.length cx).ownBlock = some k) (show World.grownBy _ w3 _ from ⟨hw2.os, hw2.tape, hw2.output, hw2.size, hw2.block⟩) fun k hk => .inl hk) fun h0 k hk e => hd h0 k hk (HA.out.foot.2.2 k e)).off ((Only.refl (One h) _).setCell (p := ⟨h, 0, none⟩) (.inl rfl) _) (fun h0 k hk e => hd h0 k hk (by rw [show k = h from e]; exact HA.out.foot.1))
  · exact fun h0 e => hd h0 g e HA.out.foot.2.1
theorem add_any (hh : IsHold B w F h s) (he : Errs B a0 a1 w) (v : Value) (bs : List UInt8) (hb : RB w v bs) (hd : 0 < bs.length → ∀ k, blkOf v = some k → ¬ F k) :
    Calls Tryd.prog 36 #[.pointer (some ⟨h, 0, none⟩), v] w fun e w' => e = .returned (ev a0 a1 (s.add bs)) ∧ Did B w F h (s.added bs) w' := by
  by_cases h0 : s.shut = true
  · have e1 : s.add bs = 190 := by unfold HS.add; rw [if_pos h0]
    have e2 : s.added bs = s := by unfold HS.added; rw [e1]; rfl
    rw [e1, e2]
    exact add_shut hh he v h0
  · by_cases hfit : s.most - (s.img.length : Int) < bs.length
    · have e1 : s.add bs = 3 := by unfold HS.add; rw [if_neg h0, if_pos hfit]
      have e2 : s.added bs = s := by unfold HS.added; rw [e1]; rfl
      rw [e1, e2]
      exact add_full hh he v bs hb (by simpa using h0) hfit
    · have e1 : s.add bs = 0 := by unfold HS.add; rw [if_neg h0, if_neg hfit]
      have e2 : s.added bs = { s with img := s.img ++ bs } := by unfold HS.added; rw [e1]; rfl
      rw [e1, e2]
      exact add_fits hh he v bs hb hd (by simpa using h0) hfit
theorem add_num (s : HS) (bs : List UInt8) : s.add bs = 0 ∨ s.add bs = 3 ∨ s.add bs = 190 := by
  unfold HS.add
  split
  · exact .inr (.inr rfl)
  · split
    · exact .inr (.inl rfl)
    · exact .inl rfl
theorem Did.then {s' : HS} {w1 w2 : World} (hd : Did B w F h s' w1) (ho : Only Nil w1 w2) (h0 : B ≤ w.heap.size) : Did B w F h s' w2 := by
  have h1 := (hd.hold.only ho fun _ _ => id)
  obtain ⟨⟨g, x, hb, h2, h3, h4, h5, h6⟩, hF, hB⟩ := h1
  have wd : ∀ k, Wide F w w1 k → Wide F w w2 k := fun k hk => hk.elim .inl fun e => .inr ⟨e.1, Nat.lt_of_lt_of_le e.2 ho.size⟩
  exact ⟨⟨⟨g, x, hb, h2, h3, h4, ⟨wd _ h5.1, wd _ h5.2.1, fun k hk => wd _ (h5.2.2 k hk)⟩, h6⟩, fun k hk => hk.elim (fun e => hF k (.inl e)) fun e => ⟨Nat.le_trans h0 e.1, e.2⟩, hB⟩, hd.only.trans ho fun _ e => e.elim⟩
theorem Add_any (hh : IsHold B w F h s) (he : Errs B a0 a1 w) (v : Value) (bs : List UInt8) (hb : RB w v bs) (hd : 0 < bs.length → ∀ k, blkOf v = some k → ¬ F k) :
    Calls Tryd.prog 17 #[.pointer (some ⟨h, 0, none⟩), v] w fun e w' => e = .returned (.int .i64 (s.add bs : Int)) ∧ Did B w F h (s.added bs) w' := by
  have HA := Lib.hid (add_any hh he v bs hb hd)
  have HH := Lib.hid hh
  have HE := Lib.hid he
  clear hh he hb hd
  go_enter Tryd.func17, Tryd.ntmps17
  go_wp2_with (first
    | (go_at_call 36; refine HA.out.mono ?_; rintro e w1 ⟨rfl, hd1⟩)
    | (go_at_call 35; refine (number_any (B := B) (a0 := a0) (a1 := a1) (s.add bs) (add_num s bs) w1 (HE.out.did HH.out hd1)).mono ?_; rintro e w2 ⟨rfl, ho2⟩))
  go_ret
  exact ⟨rfl, hd1.then ho2 HH.out.base⟩
theorem HoldAt.fresh (hA : HoldAt B w F h g x s) (hF : ∀ k, F k → B ≤ k ∧ k < w.heap.size) (hB : B ≤ w.heap.size) {w1 : World} (hw : w1 = w.alloc (.cells (HC Sha.start (List.replicate 64 0) 0).toArray 75)) (n : Nat) (hn : n = w.heap.size) :
    Did B w F h { s with img := [] } ((w1.setCell ⟨h, 0, none⟩ (.slice none 0 0)).setCell ⟨h, 1, none⟩ (.pointer (some ⟨n, 0, none⟩))) := by
  have hs : h < w.heap.size := hA.blk.lt
  have o1 : Only F w w1 := hw ▸ (Only.refl _ _).alloc _
  have o2 : Only (One h) w1 ((w1.setCell ⟨h, 0, none⟩ (.slice none 0 0)).setCell ⟨h, 1, none⟩ (.pointer (some ⟨n, 0, none⟩))) := Only.setCell (S := One h) (p := ⟨h, 1, none⟩) (Only.setCell (S := One h) (p := ⟨h, 0, none⟩) (Only.refl _ _) (.inl rfl) _) (.inl rfl) _
  have o3 : Only F w ((w1.setCell ⟨h, 0, none⟩ (.slice none 0 0)).setCell ⟨h, 1, none⟩ (.pointer (some ⟨n, 0, none⟩))) := o1.trans o2 fun k e => .inl (by rw [show k = h from e]; exact hA.foot.1)
  have b1 : Blk w1 h 57 (s.cells g x) := hw ▸ hA.blk.alloc _
  have b2 : Blk ((w1.setCell ⟨h, 0, none⟩ (.slice none 0 0)).setCell ⟨h, 1, none⟩ (.pointer (some ⟨n, 0, none⟩))) h 57 ({ s with img := [] }.cells n (.slice none 0 0)) := (b1.set 0 _).set 1 _
  have hsz : n < w1.heap.size := by rw [hw, hn]; simp
  have hash : HashAt w1 n [] := by rw [hw, hn]; exact HashAt.new w
  refine ⟨⟨⟨n, .slice none 0 0, b2, hash.only o2 (fun e => by have : n = h := e; omega), ⟨rfl, .inl ⟨rfl, rfl⟩⟩, ⟨by omega, by simp [Value.ownBlock], by simp [Value.ownBlock]⟩, ⟨.inl hA.foot.1, .inr ⟨by omega, Nat.lt_of_lt_of_le hsz o2.size⟩, fun k hk => by cases hk⟩, ⟨hA.ok.want, by have := hA.ok.room; simp; omega, hA.ok.most⟩⟩, fun k hk => ?_, Nat.le_trans hB o3.size⟩, o3⟩
  rcases hk with hk | hk
  · exact ⟨(hF k hk).1, Nat.lt_of_lt_of_le (hF k hk).2 o3.size⟩
  · exact ⟨by omega, hk.2⟩
theorem Reset_any (hh : IsHold B w F h s) (he : Errs B a0 a1 w) :
    Calls Tryd.prog 18 #[.pointer (some ⟨h, 0, none⟩)] w fun e w' => e = .returned (.int .i64 (s.open' : Int)) ∧ Did B w F h s.cleared w' := by
  have HO := Lib.hid (open_any hh he)
  have HH := Lib.hid hh
  have HE := Lib.hid he
  have hsame := Lib.hid (Did.same hh)
  unfold HS.cleared HS.open' at *
  obtain ⟨b, hb0⟩ : ∃ b, s.shut = b := ⟨_, rfl⟩
  rw [hb0] at HO ⊢
  cases b
  · have HO1 := Lib.hid (show Calls Tryd.prog 37 #[.pointer (some ⟨h, 0, none⟩)] w fun e w' => e = .returned .nilIface ∧ w' = w from HO.out)
    obtain ⟨g, x, hA⟩ := hh.at'
    have c0 := hA.c0
    have c1 := hA.c1
    have f0 := hA.blk.free 0
    have f1 := hA.blk.free 1
    have HA := Lib.hid hA
    clear hh he HO hA
    simp only [Bool.false_eq_true, if_false]
    obtain ⟨n, hn⟩ : ∃ b, w.heap.size = b := ⟨_, rfl⟩
    obtain ⟨w1, hw1⟩ : ∃ w1, w1 = w.alloc (.cells (HC Sha.start (List.replicate 64 0) 0).toArray 75) := ⟨_, rfl⟩
    have b1 : Blk w1 h 57 (s.cells g x) := hw1 ▸ HA.out.blk.alloc _
    have d0 : w1.cell? ⟨h, 0, none⟩ = some x := b1.cell 0
    have d1 : w1.cell? ⟨h, 1, none⟩ = some (.pointer (some ⟨g, 0, none⟩)) := b1.cell 1
    have g0 : w1.frozen? ⟨h, 0, none⟩ = false := b1.free 0
    have g1 : w1.frozen? ⟨h, 1, none⟩ = false := b1.free 1
    have HD := Lib.hid (HA.out.fresh HH.out.own HH.out.base hw1 n hn.symm)
    have HW := Lib.hid hw1
    clear b1 hw1
    go_enter Tryd.func18, Tryd.ntmps18
    go_wp2_with (first
      | (go_at_call 37; refine HO1.out.mono ?_; rintro e w' ⟨rfl, rfl⟩)
      | (go_at_call 23; refine (new_any _).mono ?_; rintro e w2 ⟨rfl, hw2⟩; obtain rfl := hw2.trans HW.out.symm; clear hw2; rw [hn])
      | (go_at_call 35; refine (number_any (B := B) (a0 := a0) (a1 := a1) 0 (.inl rfl) _ (HE.out.did HH.out HD.out)).mono ?_; rintro e w2 ⟨rfl, ho2⟩))
    go_ret
    refine ⟨rfl, ?_⟩
    have hfin := HD.out.then ho2 HH.out.base
    rw [hb0] at hfin
    exact hfin
  · have HO1 := Lib.hid (show Calls Tryd.prog 37 #[.pointer (some ⟨h, 0, none⟩)] w fun e w' => e = .returned (.iface 103 (.pointer (some a1))) ∧ w' = w from HO.out)
    clear HO hh he
    simp only [if_true]
    go_enter Tryd.func18, Tryd.ntmps18
    go_wp2_with (first
      | (go_at_call 37; refine HO1.out.mono ?_; rintro e w' ⟨rfl, rfl⟩)
      | (go_at_call 35; refine (number_any (B := B) (a0 := a0) (a1 := a1) 190 (.inr (.inr rfl)) _ HE.out).mono ?_; rintro e w2 ⟨rfl, ho2⟩))
    go_ret
    exact ⟨rfl, hsame.out.then ho2 HH.out.base⟩
end
end Go.Proofs.YthkongkbefpilaaDoor
