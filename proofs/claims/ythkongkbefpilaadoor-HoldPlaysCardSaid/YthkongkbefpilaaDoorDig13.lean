/-
  The walk of the reference's gone: the eight words behind a block.
-/
import Derived.Test.YthkongkbefpilaaDoorDig12
namespace Go.Proofs.YthkongkbefpilaaDoor
open Go.RowKit Sha
attribute [local go_sem] u_xor u_and u_or u_add u_shr u_shl u_not
def GoneAt (w : World) (gw cw : Nat) (bs : List UInt8) (r : Value) (ws : List (BitVec 32)) (wr : World) : Prop :=
  Only Nil w wr ∧ Blk wr w.heap.size 71 (WC K) ∧ wr.ownsRow (w.heap.size + 1) 71 1 (.slice (some ⟨gw, 0, none⟩) 64 cw) 64 (WC (wordsTo bs 64)) ∧ wr.ownsRow (w.heap.size + 1) 71 1 r 8 (WC ws)
theorem GoneAt.drewN {w wr : World} {gw cw : Nat} {bs : List UInt8} {r : Value} {ws : List (BitVec 32)} (h : GoneAt w gw cw bs r ws wr) (n : Nat) : GoneAt w gw cw bs r ws (wr.drewN n) := ⟨h.1.drewN n, h.2.1, h.2.2.1, h.2.2.2⟩
theorem GoneAt.word {w wr : World} {gw cw : Nat} {bs : List UInt8} {gr cr : Nat} {ws : List (BitVec 32)} (h : GoneAt w gw cw bs (.slice (some ⟨gr, 0, none⟩) 8 cr) ws wr) (hl : ws.length = 8) {j : Nat} (hj : j < 8) : wr.cell? ⟨gr, j, none⟩ = some (.int .u32 (wd (ws.getD j 0))) := by
  have := World.ownsRow.cells h.2.2.2 (g := gr) rfl j _ (WC_get _ j (by omega))
  rwa [Addr.add_mid, Nat.zero_add] at this
theorem GoneAt.sched {w wr : World} {gw cw : Nat} {bs : List UInt8} {r : Value} {ws : List (BitVec 32)} (h : GoneAt w gw cw bs r ws wr) {j : Nat} (hj : j < 64) : wr.cell? ⟨gw, j, none⟩ = some (.int .u32 (wd ((wordsTo bs 64).getD j 0))) := by
  have := World.ownsRow.cells h.2.2.1 (g := gw) rfl j _ (WC_get _ j (by rw [wordsTo_length]; omega))
  rwa [Addr.add_mid, Nat.zero_add] at this
theorem own_built (w : World) (base : Nat) (hb : base ≤ w.heap.size) (ws : List (BitVec 32)) (hl : ws.length = 8) : (w.alloc (.cells (WC ws).toArray 71)).ownsRow base 71 1 (.slice (some ⟨w.heap.size, 0, none⟩) 8 8) 8 (WC ws) :=
  ⟨by rw [WC_length, hl], .inr ⟨w.heap.size, 8, (WC ws).toArray, rfl, hb, heap_alloc_new w _, Nat.le_refl _, by unfold maxLen; omega, by simp [WC_length, hl], List.take_of_length_le (by show (WC ws).length ≤ 8 * 1; rw [WC_length, hl]; decide)⟩⟩
theorem GoneAt.next {w wr : World} {gw cw : Nat} {bs : List UInt8} {r : Value} {ws ws' : List (BitVec 32)} (h : GoneAt w gw cw bs r ws wr) (hl : ws'.length = 8) :
    GoneAt w gw cw bs (.slice (some ⟨wr.heap.size, 0, none⟩) 8 8) ws' (wr.alloc (.cells (WC ws').toArray 71)) :=
  ⟨h.1.alloc _, h.2.1.alloc _, World.ownsRow.alloc h.2.2.1 _, own_built wr _ (Nat.succ_le_of_lt h.2.1.lt) ws' hl⟩
theorem own_setCell {w : World} {base : Nat} {g n cap : Nat} {xs : List Value} (h : w.ownsRow base 71 1 (.slice (some ⟨g, 0, none⟩) n cap) n xs) {i : Nat} (_ : i < n) (u : Value) : (w.setCell ⟨g, i, none⟩ u).ownsRow base 71 1 (.slice (some ⟨g, 0, none⟩) n cap) n (xs.set i u) := by
  obtain ⟨h1, h2⟩ := h
  refine ⟨by rw [List.length_set]; exact h1, ?_⟩
  rcases h2 with ⟨h2, _⟩ | ⟨g', cap', cur, e, hg, hh, hc, hm, hs, ht⟩
  · cases h2
  · injection e with e1 e2 e3
    injection e1 with e1
    injection e1 with e1
    subst e1 e3
    refine .inr ⟨g, cap, cur.setIfInBounds i u, rfl, hg, ?_, hc, hm, by simpa using hs, ?_⟩
    · simp [World.setCell, Array.getElem?_modify, hh]
    · rw [Array.toList_setIfInBounds, ← ht, List.take_set]
theorem own_far {w : World} {base base' : Nat} {v : Value} {n : Nat} {xs : List Value} (h : w.ownsRow base 71 1 v n xs) {p : Addr} (hp : v.ownBlock ≠ some p.block) (u : Value) (hb : base' = base) : (w.setCell p u).ownsRow base' 71 1 v n xs := by
  subst hb
  obtain ⟨h1, h2⟩ := h
  refine ⟨h1, ?_⟩
  rcases h2 with h2 | ⟨g, cap, cur, rfl, hg, hh, r⟩
  · exact .inl h2
  · exact .inr ⟨g, cap, cur, rfl, hg, (Below.heap_setCell w p u g (fun e => hp (by rw [← e]; rfl))).trans hh, r⟩
theorem own_free {w : World} {base : Nat} {g n cap : Nat} {xs : List Value} (h : w.ownsRow base 71 1 (.slice (some ⟨g, 0, none⟩) n cap) n xs) (i : Nat) : w.frozen? ⟨g, i, none⟩ = false := by
  rcases h.2 with ⟨h2, _⟩ | ⟨g', cap', cur, e, _, hh, _⟩
  · cases h2
  · injection e with e1 e2 e3
    injection e1 with e1
    injection e1 with e1
    subst e1
    simp [World.frozen?, hh]
theorem S8.add_comm (s t : S8) : s.add t = t.add s := by
  unfold S8.add
  simp only [BitVec.add_comm]
theorem S8.list_length (s : S8) : s.list.length = 8 := rfl
/-- While the old words are added. -/
def AddR (w : World) (g cap : Nat) (q s : S8) (m : Nat) (wr : World) : Prop := Only Nil w wr ∧ wr.ownsRow (w.heap.size + 1) 71 1 (.slice (some ⟨g, 0, none⟩) 8 cap) 8 (WC (addTo q s m))
theorem AddR.word {w wr : World} {g cap : Nat} {q s : S8} {m : Nat} (h : AddR w g cap q s m wr) (hm : m ≤ 8) {j : Nat} (hj : j < 8) : wr.cell? ⟨g, j, none⟩ = some (.int .u32 (wd ((addTo q s m).getD j 0))) := by
  have := World.ownsRow.cells h.2 (g := g) rfl j _ (WC_get _ j (by rw [addTo_length _ _ _ hm]; exact hj))
  rwa [Addr.add_mid, Nat.zero_add] at this
theorem AddR.drew {w wr : World} {g cap : Nat} {q s : S8} {m : Nat} (h : AddR w g cap q s m wr) : AddR w g cap q s m wr.drew := ⟨h.1.drew, h.2⟩
theorem AddR.next {w wr : World} {g cap : Nat} {q s : S8} {m : Nat} (h : AddR w g cap q s m wr) (hm : m < 8) : AddR w g cap q s (m + 1) (wr.setCell ⟨g, m, none⟩ (.int .u32 (wd (q.list.getD m 0 + s.list.getD m 0)))) := by
  have hg := (own_block h.2 g rfl).1
  refine ⟨h.1.setCell (.inr (by show w.heap.size ≤ g; omega)) _, ?_⟩
  have := own_setCell h.2 hm (.int .u32 (wd (q.list.getD m 0 + s.list.getD m 0)))
  rwa [WC_set, addTo_set _ _ _ hm] at this
set_option maxHeartbeats 3200000 in
set_option maxRecDepth 100000 in
theorem rgone_any (s : S8) (vh : Value) (bs : List UInt8) (vb : Value) (w : World) (hh : RV w vh (WC s.list)) (hb : RB w vb bs) (hl : bs.length = 64) :
    Calls Tryd.prog 45 #[vh, vb] w fun e w' => ∃ gr cr, e = .returned (.slice (some ⟨gr, 0, none⟩) 8 cr) ∧ w'.ownsRow w.heap.size 71 1 (.slice (some ⟨gr, 0, none⟩) 8 cr) 8 (WC (gone s bs).list) ∧ Only Nil w w' := by
  obtain ⟨ib, hib, hbz, hbs, hbb⟩ := info_parts info_word
  obtain ⟨A, c, rfl, hc, hrow⟩ := hh
  obtain ⟨gh, oh, rfl, hcell⟩ := hrow (by rw [WC_length]; show 0 < 8; decide)
  rw [WC_length, S8.list_length] at *
  have hcell2 : ∀ j, j < 8 → w.cell? ⟨gh, oh + j, none⟩ = some (.int .u32 (wd (s.list.getD j 0))) := fun j hj => by
    rw [hcell j hj]
    have := WC_get s.list j hj
    simp [List.getD, this]
  have hgh := World.block_lt_of_cell? w _ (hcell2 0 (by omega))
  have HC := Lib.hid hcell2
  have HB := Lib.hid hb
  clear hcell hrow hcell2 hb
  go_enter Tryd.func45, Tryd.ntmps45
  go_upto_region 3 with (first
    | (go_at_call 49; refine (rtable_any _).mono ?_; rintro e w' ⟨rfl, rfl⟩)
    | (go_at_call 50; refine (rwords_any bs vb _ (HB.out.alloc _) hl).mono ?_; rintro e w1 ⟨v', rfl, hW⟩))
  obtain ⟨gw, cw, rfl, hcw, hgw, hgw1, _⟩ := own_form hW.own (by omega)
  rw [World.size_alloc] at hgw
  have hoW : Only Nil w w1 := (((Only.refl Nil w).alloc (.cells (WC K).toArray 71)).then hW.2)
  have hKW : Blk w1 w.heap.size 71 (WC K) := hW.2.blk (Blk.new w _ _) id
  have hWW : w1.ownsRow (w.heap.size + 1) 71 1 (.slice (some ⟨gw, 0, none⟩) 64 cw) 64 (WC (wordsTo bs 64)) := by have := hW.own; rwa [World.size_alloc] at this
  have hc1 := fun j hj => hoW.cell (HC.out j hj) id
  have hsz := hoW.size
  have HW := Lib.hid hWW
  have HO := Lib.hid hoW
  have HK := Lib.hid hKW
  have H1 := Lib.hid hc1
  clear hW hoW hKW hWW hc1
  go_upto_region 4 with (at_builtin; refine wpList_append_row rfl (.const (.slice none 0 0)) (.tmp 17) 78 rfl (w.heap.size + 1) 71 ib _ 4 Tryd.underlying78 hib hbz hbs hbb rfl _ 0 [] rfl ⟨rfl, .inl ⟨rfl, rfl⟩⟩ ⟨gh, oh, none⟩ 8 c (WC s.list) rfl (by rw [WC_length]; rfl) (by intro j u hj; have hj8 := (List.getElem?_eq_some_iff.1 hj).1; rw [WC_length] at hj8; rw [WC_get _ _ hj8] at hj; rw [Addr.add_mid, ← hj]; exact H1.out j hj8) (WC_one _) (by omega) (by unfold maxLen; omega) (by omega) (by have := hgw1; omega) ?_; intro gr cr w2 hgrow)
  have HG := Lib.hid (show GoneAt w gw cw bs (.slice (some ⟨gr, 0, none⟩) 8 cr) s.list w2 from by
    have ho : Only Nil w1 w2 := Only.of_grown hgrow.grown fun k hk => by cases hk
    exact ⟨HO.out.then ho, ho.blk HK.out id, own_only HW.out ho (fun _ _ => id), hgrow.own⟩)
  clear hgrow HO HK HW H1 hsz hgw1
  go_wp2
  go_loopw [7, 8] (fun r i wr => ∃ (t gr cr : Nat), t ≤ 64 ∧ i = .int .i64 t ∧ r = .slice (some ⟨gr, 0, none⟩) 8 cr ∧ GoneAt w gw cw bs r (rounds (wordsTo bs 64) s t).list wr) (fun _ i _ => 64 - (intOf i).toNat)
  case atStart => exact ⟨0, gr, cr, by omega, rfl, rfl, HG.out⟩
  case round =>
    clear HG
    obtain ⟨t, g, cap, ht, rfl, rfl, hS⟩ := hrel
    have HT : Hid (∃ q, q = rounds (wordsTo bs 64) s t) := Lib.hid ⟨_, rfl⟩
    obtain ⟨q, hq⟩ := HT.out
    rw [← hq] at hS
    have HQ := Lib.hid hq
    clear hq HT
    have w0 : wr.cell? ⟨g, 0, none⟩ = some (.int .u32 (wd q.a)) := hS.word rfl (j := 0) (by omega)
    have w1' : wr.cell? ⟨g, 1, none⟩ = some (.int .u32 (wd q.b)) := hS.word rfl (j := 1) (by omega)
    have w2' : wr.cell? ⟨g, 2, none⟩ = some (.int .u32 (wd q.c)) := hS.word rfl (j := 2) (by omega)
    have w3' : wr.cell? ⟨g, 3, none⟩ = some (.int .u32 (wd q.d)) := hS.word rfl (j := 3) (by omega)
    have w4' : wr.cell? ⟨g, 4, none⟩ = some (.int .u32 (wd q.e)) := hS.word rfl (j := 4) (by omega)
    have w5' : wr.cell? ⟨g, 5, none⟩ = some (.int .u32 (wd q.f)) := hS.word rfl (j := 5) (by omega)
    have w6' : wr.cell? ⟨g, 6, none⟩ = some (.int .u32 (wd q.g)) := hS.word rfl (j := 6) (by omega)
    have w7' : wr.cell? ⟨g, 7, none⟩ = some (.int .u32 (wd q.z)) := hS.word rfl (j := 7) (by omega)
    by_cases hlt : t < 64
    · have ck := hS.2.1.cell t
      rw [WC_get _ _ (by rw [K_length]; omega)] at ck
      have cw' := hS.sched hlt
      generalize hk : K.getD t 0 = k at *
      generalize hx : (wordsTo bs 64).getD t 0 = x at *
      have HK := Lib.hid hk
      have HX := Lib.hid hx
      have HT := Lib.hid hS
      have g4 : (t : Int) < 64 := by omega
      have t6 := fun W => turn_any q.e 6 W (by omega) (by omega)
      have t11 := fun W => turn_any q.e 11 W (by omega) (by omega)
      have t25 := fun W => turn_any q.e 25 W (by omega) (by omega)
      have t2 := fun W => turn_any q.a 2 W (by omega) (by omega)
      have t13 := fun W => turn_any q.a 13 W (by omega) (by omega)
      have t22 := fun W => turn_any q.a 22 W (by omega) (by omega)
      clear hk hx hS
      go_wp2
      go_quiet ((go_at_call 51; first | ((with_reducible show Calls _ _ #[_, Value.int IntKind.i64 6] _ _); exact Calls.quiet_of (t6 _)) | ((with_reducible show Calls _ _ #[_, Value.int IntKind.i64 11] _ _); exact Calls.quiet_of (t11 _)) | ((with_reducible show Calls _ _ #[_, Value.int IntKind.i64 25] _ _); exact Calls.quiet_of (t25 _))))
      have HT2 := Lib.hid (HT.out.drewN nq)
      clear HT w0 w1' w2' w3' w4' w5' w6' w7' ck cw' t6 t11 t25
      generalize wr.drewN nq = wq at *
      have w0 : wq.cell? ⟨g, 0, none⟩ = some (.int .u32 (wd q.a)) := HT2.out.word rfl (j := 0) (by omega)
      have w1' : wq.cell? ⟨g, 1, none⟩ = some (.int .u32 (wd q.b)) := HT2.out.word rfl (j := 1) (by omega)
      have w2' : wq.cell? ⟨g, 2, none⟩ = some (.int .u32 (wd q.c)) := HT2.out.word rfl (j := 2) (by omega)
      generalize hu : q.z + (rotr q.e 6 ^^^ rotr q.e 11 ^^^ rotr q.e 25) + (q.e &&& q.f ^^^ ~~~q.e &&& q.g) + k + x = u at *
      have HU := Lib.hid (show u = uOf q k x from hu.symm)
      clear hu
      go_wp2
      go_quiet ((go_at_call 51; first | ((with_reducible show Calls _ _ #[_, Value.int IntKind.i64 2] _ _); exact Calls.quiet_of (t2 _)) | ((with_reducible show Calls _ _ #[_, Value.int IntKind.i64 13] _ _); exact Calls.quiet_of (t13 _)) | ((with_reducible show Calls _ _ #[_, Value.int IntKind.i64 22] _ _); exact Calls.quiet_of (t22 _))))
      have HT3 := Lib.hid (HT2.out.drewN nq)
      clear HT2 w0 w1' w2' t2 t13 t22
      generalize wq.drewN nq = wp at *
      have w0 : wp.cell? ⟨g, 0, none⟩ = some (.int .u32 (wd q.a)) := HT3.out.word rfl (j := 0) (by omega)
      have w1' : wp.cell? ⟨g, 1, none⟩ = some (.int .u32 (wd q.b)) := HT3.out.word rfl (j := 1) (by omega)
      have w2' : wp.cell? ⟨g, 2, none⟩ = some (.int .u32 (wd q.c)) := HT3.out.word rfl (j := 2) (by omega)
      have w3' : wp.cell? ⟨g, 3, none⟩ = some (.int .u32 (wd q.d)) := HT3.out.word rfl (j := 3) (by omega)
      have w4' : wp.cell? ⟨g, 4, none⟩ = some (.int .u32 (wd q.e)) := HT3.out.word rfl (j := 4) (by omega)
      have w5' : wp.cell? ⟨g, 5, none⟩ = some (.int .u32 (wd q.f)) := HT3.out.word rfl (j := 5) (by omega)
      have w6' : wp.cell? ⟨g, 6, none⟩ = some (.int .u32 (wd q.g)) := HT3.out.word rfl (j := 6) (by omega)
      go_wp2
      go_still_tail 26, (by kernel_rfl)
      change wpList _ _ _ _ _ wp.drew
      have HT4 := Lib.hid (HT3.out.drewN 1)
      clear HT3 w0 w1' w2' w3' w4' w5' w6'
      change Hid (GoneAt _ _ _ _ _ _ wp.drew) at HT4
      generalize wp.drew = wx at *
      go_wp2
      go_roundw
      case rel =>
        refine ⟨t + 1, wx.heap.size, 8, by omega, by go_num, rfl, ?_⟩
        have e : Sha.step k x q = ⟨u + vOf q, q.a, q.b, q.c, q.d + u, q.e, q.f, q.g⟩ := by unfold Sha.step; rw [HU.out]
        rw [rounds, HK.out, HX.out, ← HQ.out, e]
        exact HT4.out.next rfl
      case measure => simp [intOf]; omega
    · have H64 := Lib.hid (show t = 64 by omega)
      have hA : AddR w g cap q s 0 wr := ⟨hS.1, by rw [addTo_zero]; exact hS.2.2.2⟩
      clear hS w0 w1' w2' w3' w4' w5' w6' w7'
      go_wp2
      go_loopw [13] (fun i w2 => ∃ m : Nat, m ≤ 8 ∧ i = .int .i64 m ∧ AddR w g cap q s m w2) (fun i _ => 8 - (intOf i).toNat)
      case atStart => exact ⟨0, Nat.zero_le _, rfl, hA⟩
      case round =>
        clear hA
        rename_i wr0 _ _ _ wr
        obtain ⟨m, hm, rfl, hA⟩ := hrel
        by_cases hlt8 : m < 8
        · have c0 := hA.word (by omega) hlt8
          rw [addTo_get _ _ _ hlt8] at c0
          have c1 := hA.1.cell (HC.out m hlt8) id
          have d4 : wr.drew.cell? ⟨g, m, none⟩ = some (.int .u32 (wd (q.list.getD m 0))) := c0
          have d5 : wr.drew.frozen? ⟨g, m, none⟩ = false := own_free hA.2 m
          generalize hs0 : s.list.getD m 0 = s0 at *
          generalize hr0 : q.list.getD m 0 = r0 at *
          have HS0 := Lib.hid hs0
          have HR0 := Lib.hid hr0
          have HA := Lib.hid hA
          have g4 : (m : Int) < 8 := by omega
          clear hs0 hr0 hA
          go_wp2
          go_still_tail 12, (by kernel_rfl)
          change wpList _ _ _ _ _ wr.drew
          have HA2 := Lib.hid (HA.out.drew)
          generalize wr.drew = w3 at *
          clear c0 c1 HA
          go_wp2
          go_roundw
          case rel =>
            refine ⟨m + 1, by omega, by go_num, ?_⟩
            have := HA2.out.next hlt8
            rw [HS0.out, HR0.out] at this
            exact this
          case measure => simp [intOf]; omega
        · have H8 := Lib.hid (show m = 8 by omega)
          have HA := Lib.hid hA
          clear hA
          go_wp2
          go_ret
          have hA2 := HA.out
          rw [H8.out, AddR, addTo_all] at hA2
          have e : q.add s = gone s bs := by rw [gone, HQ.out, H64.out, S8.add_comm]
          rw [e] at hA2
          exact ⟨g, cap, rfl, World.ownsRow.mono hA2.2 (Nat.le_succ _), hA2.1⟩
end Go.Proofs.YthkongkbefpilaaDoor
