/-
  JudgePhases answers true for any two traces: the walk, and the given row proved.
-/
import Derived.Test.YthoaeolohnalnaaRow4
import Derived.Test.YthoaeolohnalnaaRn
import Derived.Test.YthoaeolohnalnaaJPh
import Derived.Test.YthoaeolohnalnaaJFin
namespace Go.Proofs.Ythoaeolohnalnaa
open Go.RowKit

/-- The phases of a trace, and the error. -/
def phL (l : List Ev) : List Int := match phTo l l.length with
  | none => []
  | some s => s.1
def phY (l : List Ev) : Int := match phTo l l.length with
  | none => 270
  | some _ => 0
theorem phs_is {W : World} {b : Nat} {l : List Ev} {v : Value} {y : Int} (h : Phs W b l v y) : OwnI W b v (phL l).length (phL l) ∧ y = phY l := by
  unfold phL phY
  rcases h with ⟨h1, rfl, rfl⟩ | ⟨out, u, o, h1, h2, rfl⟩
  · rw [h1]
    exact ⟨⟨rfl, .inl ⟨rfl, rfl⟩⟩, rfl⟩
  · rw [h1]
    exact ⟨h2, rfl⟩
theorem phL_some {l : List Ev} {s : PhS} (h : phTo l l.length = some s) : phL l = phR l l.length ∧ phY l = 0 := by
  unfold phL phY
  rw [h]
  exact ⟨((phlink_all l l.length (Nat.le_refl _)).1 _ h).out, rfl⟩
theorem phsR_is {W : World} {b : Nat} {l : List Ev} {v : Value} {y : Int} (h : PhsR W b l v y) : OwnI W b v (phL l).length (phL l) ∧ y = phY l := by
  cases hp : phTo l l.length with
  | none =>
    rcases h with ⟨_, rfl, rfl⟩ | ⟨g1, _, _⟩
    · unfold phL phY
      rw [hp]
      exact ⟨⟨rfl, .inl ⟨rfl, rfl⟩⟩, rfl⟩
    · obtain ⟨j, hj, hb⟩ := (phlink_all l l.length (Nat.le_refl _)).2 hp
      rw [g1 j hj] at hb
      cases hb
  | some s =>
    obtain ⟨e1, e2⟩ := phL_some hp
    rw [e1, e2]
    rcases h with ⟨⟨k, hk, g1⟩, _, _⟩ | ⟨_, g2, rfl⟩
    · have := ((phlink_all l l.length (Nat.le_refl _)).1 _ hp).good k hk
      rw [this] at g1
      cases g1
    · exact ⟨g2, rfl⟩
theorem phR_len (l : List Ev) : ∀ k, (phR l k).length ≤ k + 1
  | 0 => Nat.le_refl _
  | k + 1 => by
    have := phR_len l k
    show (turnP (phR l k) _).length ≤ _
    unfold turnP
    split
    · omega
    · simp; omega
theorem phL_len (l : List Ev) : (phL l).length ≤ l.length + 1 := by
  cases hp : phTo l l.length with
  | none => unfold phL; rw [hp]; exact Nat.zero_le _
  | some s => rw [(phL_some hp).1]; exact phR_len l _
theorem phStepE_any (e : Ev) (nk nk' : Int) (s : PhS) : phStepE e true nk s = phStepE e true nk' s := by
  unfold phStepE
  simp
theorem phTo_lent (l : List Ev) (gs : Nat → Nat) : ∀ k, k ≤ l.length → phTo (lentL l gs) k = phTo l k
  | 0, _ => rfl
  | k + 1, h => by
    show (phTo (lentL l gs) k).bind (phStep (lentL l gs) k) = (phTo l k).bind (phStep l k)
    rw [phTo_lent l gs k (by omega)]
    congr 1
    funext s
    unfold phStep
    rw [lentL_get _ _ (show k < l.length by omega), lentL_len]
    by_cases hk : k + 1 = l.length
    · rw [show decide (k + 1 = l.length) = true by simp [hk]]
      exact phStepE_any (l.getD k ev0) _ _ s
    · rw [lentL_get _ _ (show k + 1 < l.length by omega)]
      rfl
theorem phL_lent (l : List Ev) (gs : Nat → Nat) : phL (lentL l gs) = phL l ∧ phY (lentL l gs) = phY l := by
  unfold phL phY
  rw [lentL_len, phTo_lent l gs _ (Nat.le_refl _)]
  exact ⟨rfl, rfl⟩
theorem own_weaken {W : World} {b b' n : Nat} {v : Value} {L : List Int} (h : OwnI W b v n L) (hb : b' ≤ b) : OwnI W b' v n L := by
  refine ⟨h.1, ?_⟩
  rcases h.2 with h2 | ⟨g, cap, cur, h1, h2, h3⟩
  · exact .inl h2
  · exact .inr ⟨g, cap, cur, h1, by omega, h3⟩
def Mid (w W : World) (g : Nat) (l : List Ev) (gs : Nat → Nat) (b1 : Nat) (v1 : Value) : Prop := Only Nil w W ∧ LentTo W g l l.length gs ∧ EvRow W g (l.length + 2) (allE l gs) ∧ OwnI W b1 v1 (phL l).length (phL l) ∧ b1 ≤ W.heap.size
theorem Mid.only {w W W' : World} {g : Nat} {l : List Ev} {gs : Nat → Nat} {b1 : Nat} {v1 : Value} (h : Mid w W g l gs b1 v1) (ho : Only Nil W W') : Mid w W' g l gs b1 v1 :=
  ⟨h.1.then ho, h.2.1.only ho fun _ _ => id, h.2.2.1.only ho id, own_only h.2.2.2.1 ho fun _ _ => id, Nat.le_trans h.2.2.2.2 ho.size⟩
theorem own_nil {W W' : World} {b n : Nat} {v : Value} {L : List Int} (h : OwnI W b v n L) (ho : Only Nil W W') : OwnI W' b v n L := own_only h ho fun _ _ => id
set_option maxHeartbeats 6400000 in
set_option maxRecDepth 100000 in
theorem jphases_any (v v2 : Value) (l m : List Ev) (w : World) (hv : Evs w v l) (hv2 : Evs w v2 m) (hd : ∀ j, j < l.length → (l.getD j ev0).data.length ≤ 140737488355328) (hn : l.length ≤ 1000000000000000)
    (hd2 : ∀ j, j < m.length → (m.getD j ev0).data.length ≤ 140737488355328) (hn2 : m.length ≤ 1000000000000000) :
    Calls Try.prog 7 #[v, v2] w fun r w' => r = .returned (.bool true) ∧ Only Nil w w' := by
  have A1 := Lib.hid (show ∀ W, Only Nil w W → Evs W v l from fun W ho => hv.nil ho)
  have A2 := Lib.hid (show ∀ W, Only Nil w W → Evs W v2 m from fun W ho => hv2.nil ho)
  have HD := Lib.hid hd
  have HD2 := Lib.hid hd2
  obtain ⟨A, cp, rfl, hcp, hq1⟩ := hv
  obtain ⟨A2', cp2, rfl, hcp2, hq2⟩ := hv2
  clear hd hd2 hq1 hq2
  go_enter Try.func7, Try.ntmps7
  go_upto_region 2 with (go_at_call 10; refine (beyond_any _ l _ (A1.out _ (Only.refl _ _)) HD.out hn).mono ?_; rintro r w2 ⟨rfl, rfl⟩)
  go_upto_region 3 with (go_at_call 10; refine (beyond_any _ m _ (A2.out _ (Only.refl _ _)) HD2.out hn2).mono ?_; rintro r w2 ⟨rfl, rfl⟩)
  cases hbe : beyE l
  case true =>
    clear hbe
    go_wp2
    go_ret
    exact ⟨rfl, Only.refl _ _⟩
  obtain ⟨hl1, hc1⟩ := beyE_false hbe
  clear hbe hc1
  cases hbe2 : beyE m
  case true =>
    clear hbe2
    go_wp2
    go_ret
    exact ⟨rfl, Only.refl _ _⟩
  obtain ⟨hm1, hc1⟩ := beyE_false hbe2
  clear hbe2 hc1
  go_upto_region 5 with fail
  go_upto_region 6 with (go_at_call 11; refine (live_any _).mono ?_; rintro r w2 ⟨rfl, ho2⟩)
  refine wp_gen (fun W => Only Nil w W) ho2 ?_
  clear ho2
  intro w1 h1
  have H1 := Lib.hid h1
  clear h1
  go_upto_region 7 with (go_at_call 17; refine (lent_any _ l _ (A1.out _ H1.out) HD.out (by omega)).mono ?_; rintro r w2 ⟨gs, rfl, hL2, hR2, ho2⟩)
  obtain ⟨g, hg⟩ : ∃ g, w1.heap.size = g := ⟨_, rfl⟩
  rw [hg] at hL2 hR2 ⊢
  have HG := Lib.hid (show w.heap.size ≤ g by rw [← hg]; exact H1.out.size)
  obtain ⟨b1, hb1⟩ : ∃ b, w2.heap.size = b := ⟨_, rfl⟩
  have HLS := Lib.hid (show ∀ k, LentS g l.length gs k → k < b1 from fun k hk => by
    rw [← hb1]
    rcases hk with rfl | ⟨j, hj, rfl⟩
    · exact hR2.lt
    · exact (hL2.blk j hj).lt)
  have HLen := Lib.hid (lentL_len l gs)
  have HPL := Lib.hid (phL_lent l gs)
  have HY := Lib.hid (show ∃ y, phY l = y from ⟨_, rfl⟩)
  obtain ⟨y, hy⟩ := HY.out
  obtain ⟨z, hz⟩ : ∃ z, phY m = z := ⟨_, rfl⟩
  have HYZ := Lib.hid (And.intro hy hz)
  have HW1 := Lib.hid (show w.heap.size ≤ b1 by rw [← hb1]; exact Nat.le_trans H1.out.size ho2.size)
  refine wp_gen (fun W => Only Nil w W ∧ LentTo W g l l.length gs ∧ EvRow W g (l.length + 2) (allE l gs) ∧ W.heap.size = b1) ⟨H1.out.then ho2, hL2, hR2, hb1⟩ ?_
  clear H1 ho2 hL2 hR2 hg hb1 hy hz HY
  intro w2 h2
  have H2 := Lib.hid h2
  clear h2
  go_upto_region 8 with (go_at_call 16; refine (phases_any _ (lentL l gs) _ (evs_lent (A1.out _ (Only.refl _ _)) H2.out.2.1 H2.out.2.2.1) (by rw [HLen.out]; omega)).mono ?_; rintro r w3 ⟨⟨v1, y1, rfl, hp1⟩, ho3⟩)
  obtain ⟨hp1, hy1⟩ := phs_is hp1
  rw [HPL.out.1, H2.out.2.2.2] at hp1
  rw [HPL.out.2, HYZ.out.1] at hy1
  subst hy1
  refine wp_gen (fun W => Mid w W g l gs b1 v1) ⟨H2.out.1.then ho3, H2.out.2.1.only ho3 fun _ _ => id, H2.out.2.2.1.only ho3 id, hp1, by rw [← H2.out.2.2.2]; exact ho3.size⟩ ?_
  clear H2 ho3 hp1
  intro w2 h2
  have H2 := Lib.hid h2
  clear h2
  go_upto_region 9 with (go_at_call 16; refine (phases_any _ m _ (A2.out _ H2.out.1) (by omega)).mono ?_; rintro r w3 ⟨⟨v2, y2, rfl, hp2⟩, ho3⟩)
  obtain ⟨hp2, hy2⟩ := phs_is hp2
  rw [HYZ.out.2] at hy2
  subst hy2
  obtain ⟨b2, hb2⟩ : ∃ b, w2.heap.size = b := ⟨_, rfl⟩
  rw [hb2] at hp2
  have HB2 := Lib.hid (show b1 ≤ b2 from hb2 ▸ H2.out.2.2.2.2)
  refine wp_gen (fun W => Mid w W g l gs b1 v1 ∧ OwnI W b2 v2 (phL m).length (phL m)) ⟨H2.out.only ho3, hp2⟩ ?_
  clear H2 ho3 hp2 hb2
  intro w2 h2
  have H2 := Lib.hid h2
  clear h2
  go_upto_region 10 with (go_at_call 16; refine (phases_any _ (lentL l gs) _ (evs_lent (A1.out _ (Only.refl _ _)) H2.out.1.2.1 H2.out.1.2.2.1) (by rw [HLen.out]; omega)).mono ?_; rintro r w3 ⟨⟨v3, y3, rfl, hp3⟩, ho3⟩)
  obtain ⟨hp3, hy3⟩ := phs_is hp3
  obtain ⟨b3, hb3⟩ : ∃ b, w2.heap.size = b := ⟨_, rfl⟩
  rw [HPL.out.1, hb3] at hp3
  rw [HPL.out.2, HYZ.out.1] at hy3
  subst hy3
  have HB3 := Lib.hid (And.intro (show b1 ≤ b3 from hb3 ▸ H2.out.1.2.2.2.2) (show ∀ k, v1.ownBlock = some k → k < b3 from fun k hk => hb3 ▸ (own_block H2.out.1.2.2.2.1 k hk).2))
  refine wp_gen (fun W => Mid w W g l gs b1 v1 ∧ OwnI W b2 v2 (phL m).length (phL m) ∧ OwnI W b3 v3 (phL l).length (phL l)) ⟨H2.out.1.only ho3, own_nil H2.out.2 ho3, hp3⟩ ?_
  clear H2 ho3 hp3 hb3
  intro w2 h2
  have H2 := Lib.hid h2
  clear h2
  go_upto_region 11 with (go_at_call 18; refine (asLent_fine g gs _ l w _ (A1.out _ (Only.refl _ _)) H2.out.1.1 HG.out H2.out.1.2.1 H2.out.1.2.2.1 HD.out (by omega)).mono ?_; rintro r w3 ⟨rfl, ho3⟩)
  have HK := Lib.hid (show ∀ b n v L, b1 ≤ b → OwnI w2 b v n L → OwnI w3 b v n L from fun b n v L hb h => own_only h ho3 fun k hk hs => by
    have h1 := (own_block h k hk).1
    have h2 := HLS.out k hs
    omega)
  refine wp_gen (fun W => Only Nil w W ∧ OwnI W b1 v1 (phL l).length (phL l) ∧ OwnI W b2 v2 (phL m).length (phL m) ∧ OwnI W b3 v3 (phL l).length (phL l)) ⟨H2.out.1.1.trans ho3 fun i hi => .inr (by
    rcases hi with rfl | ⟨j, hj, rfl⟩
    · exact HG.out
    · exact Nat.le_trans HG.out (Nat.le_of_lt (H2.out.1.2.1.low j hj))), HK.out _ _ _ _ (Nat.le_refl _) H2.out.1.2.2.2.1, HK.out _ _ _ _ HB2.out H2.out.2.1, HK.out _ _ _ _ HB3.out.1 H2.out.2.2⟩ ?_
  clear H2 ho3 HK HLS HLen HPL
  intro w2 h2
  have H2 := Lib.hid h2
  clear h2
  go_upto_region 12 with (go_at_call 20; refine (rphases_any _ l _ (A1.out _ H2.out.1) (by omega)).mono ?_; rintro r w3 ⟨⟨v4, y4, rfl, hp4⟩, ho3⟩)
  obtain ⟨hp4, hy4⟩ := phsR_is hp4
  rw [HYZ.out.1] at hy4
  subst hy4
  generalize w2.heap.size = b4 at hp4
  refine wp_gen (fun W => (Only Nil w W ∧ OwnI W b1 v1 (phL l).length (phL l) ∧ OwnI W b2 v2 (phL m).length (phL m) ∧ OwnI W b3 v3 (phL l).length (phL l)) ∧ OwnI W b4 v4 (phL l).length (phL l)) ⟨⟨H2.out.1.then ho3, own_nil H2.out.2.1 ho3, own_nil H2.out.2.2.1 ho3, own_nil H2.out.2.2.2 ho3⟩, hp4⟩ ?_
  clear H2 ho3 hp4
  intro w2 h2
  have H2 := Lib.hid h2
  clear h2
  go_upto_region 13 with (go_at_call 20; refine (rphases_any _ m _ (A2.out _ H2.out.1.1) (by omega)).mono ?_; rintro r w3 ⟨⟨v5, y5, rfl, hp5⟩, ho3⟩)
  obtain ⟨hp5, hy5⟩ := phsR_is hp5
  rw [HYZ.out.2] at hy5
  subst hy5
  generalize w2.heap.size = b5 at hp5
  have HLL := Lib.hid (phL_len l)
  have HLM := Lib.hid (phL_len m)
  generalize phL l = L at *
  generalize phL m = M at *
  refine wp_gen (fun W => Only Nil w W ∧ OwnI W b1 v1 L.length L ∧ OwnI W b2 v2 M.length M ∧ OwnI W b3 v3 L.length L ∧ OwnI W b4 v4 L.length L ∧ OwnI W b5 v5 M.length M) ⟨H2.out.1.1.then ho3, own_nil H2.out.1.2.1 ho3, own_nil H2.out.1.2.2.1 ho3, own_nil H2.out.1.2.2.2 ho3, own_nil H2.out.2 ho3, hp5⟩ ?_
  clear H2 ho3 hp5
  intro w2 h2
  have H2 := Lib.hid h2
  clear h2
  have hLL := HLL.out
  have hLM := HLM.out
  clear hp1 hp2 hp3 hp4 hp5
  go_upto_region 14 with (go_at_call 21; refine (sameInts_any _ _ L _ (own_reads H2.out.2.1) (own_reads H2.out.2.2.2.2.1) (by omega)).mono ?_; rintro r w3 ⟨rfl, ho3⟩)
  refine wp_gen (fun W => Only Nil w W ∧ OwnI W b1 v1 L.length L ∧ OwnI W b2 v2 M.length M ∧ OwnI W b3 v3 L.length L ∧ OwnI W b4 v4 L.length L ∧ OwnI W b5 v5 M.length M) ⟨H2.out.1.then ho3, own_nil H2.out.2.1 ho3, own_nil H2.out.2.2.1 ho3, own_nil H2.out.2.2.2.1 ho3, own_nil H2.out.2.2.2.2.1 ho3, own_nil H2.out.2.2.2.2.2 ho3⟩ ?_
  clear H2 ho3
  intro w2 h2
  have H2 := Lib.hid h2
  clear h2
  go_upto_region 15 with (go_at_call 21; refine (sameInts_any _ _ M _ (own_reads H2.out.2.2.1) (own_reads H2.out.2.2.2.2.2) (by omega)).mono ?_; rintro r w3 ⟨rfl, ho3⟩)
  refine wp_gen (fun W => Only Nil w W ∧ OwnI W b1 v1 L.length L ∧ OwnI W b2 v2 M.length M ∧ OwnI W b3 v3 L.length L ∧ OwnI W b4 v4 L.length L ∧ OwnI W b5 v5 M.length M) ⟨H2.out.1.then ho3, own_nil H2.out.2.1 ho3, own_nil H2.out.2.2.1 ho3, own_nil H2.out.2.2.2.1 ho3, own_nil H2.out.2.2.2.2.1 ho3, own_nil H2.out.2.2.2.2.2 ho3⟩ ?_
  clear H2 ho3
  intro w2 h2
  have H2 := Lib.hid h2
  clear h2
  go_upto_region 16 with (go_at_call 21; refine (sameInts_any _ _ L _ (own_reads H2.out.2.2.2.1) (own_reads H2.out.2.2.2.2.1) (by omega)).mono ?_; rintro r w3 ⟨rfl, ho3⟩)
  refine wp_gen (fun W => Only Nil w W ∧ OwnI W b1 v1 L.length L ∧ OwnI W b2 v2 M.length M ∧ OwnI W b3 v3 L.length L ∧ OwnI W b4 v4 L.length L ∧ OwnI W b5 v5 M.length M) ⟨H2.out.1.then ho3, own_nil H2.out.2.1 ho3, own_nil H2.out.2.2.1 ho3, own_nil H2.out.2.2.2.1 ho3, own_nil H2.out.2.2.2.2.1 ho3, own_nil H2.out.2.2.2.2.2 ho3⟩ ?_
  clear H2 ho3
  intro w2 h2
  have H2 := Lib.hid h2
  clear h2
  have hy4 : (y4 != y4) = false := by simp
  have hy5 : (y5 != y5) = false := by simp
  have HDis := Lib.hid (show ∀ k, v1.ownBlock = some k → v3.ownBlock = some k → False from fun k h1 h3 => by
    have e1 := HB3.out.2 k h1
    have e3 := (own_block H2.out.2.2.2.1 k h3).1
    omega)
  have hsz := H2.out.1.size
  have HE := Lib.hid H2
  go_wp2_with (go_at_call 22; refine (apart_any w.heap.size L.length v1 v3 L _ (own_weaken HE.out.out.2.1 HW1.out) (own_weaken HE.out.out.2.2.2.1 (Nat.le_trans HW1.out HB3.out.1)) HDis.out hsz (by omega)).mono ?_; rintro r w3 ⟨rfl, ho3⟩)
  go_ret
  exact ⟨rfl, HE.out.out.1.trans ho3 fun i hi => .inr hi⟩
open Go.ChangeShapes Go.WideShapes Go.ChangeAt
set_option maxRecDepth 100000 in
theorem phases_lifted (os : Os) (started : os.Started) (H : Type) (enc : TypeId × Value → H) :
    ReturnsInHanded {} Try.checked os 7 .any (Rows.judgePhasesSpec.pre6 enc Try.prog Try.f7 Rows.judgePhasesRow.domain false) (Rows.judgePhasesSpec.post enc Try.prog Try.f7 false true false false) := by
  refine returnsInHanded_of_change_sized (C := Try.checked) Try.own started (by kernel_rfl) Try.func7
    (ChangeSpec.witness6 (enc := enc) (C := Try.checked) false ⟨#[], #[.slice none 0 0, .slice none 0 0], []⟩ 8 (by kernel_rfl) (by kernel_rfl) (by kernel_rfl) (by kernel_rfl)) ?_
  intro W base args ds gs before hval0 hW hcnd hsz0 _
  have hval : ∀ (j : Nat) t v, Try.f7.params[j]? = some t → args[j]? = some v → Value.okWide Try.prog W .any base t v := hval0
  have hsz : (DataW.weightsEach Try.prog (Try.f7.params.toList ++ Rows.judgePhasesSpec.plain.varTypes Try.prog) (ds ++ gs)).all (· ≤ reachBytes) = true := hsz0
  have hW' := hW
  obtain ⟨p, q, hA0, hV, rfl, hfz, hnd⟩ := hW
  have hA : DataW.TrodAll enc Try.prog W 0 (fun _ => true) true Try.f7.params.toList args.toList ds p := hA0
  rw [Try.params7] at hA hval hsz
  have hA1 := hA
  obtain ⟨v0, vs1, d0, ds1, p0, ps1, hargs, rfl, rfl, h0, hA2⟩ := trodAll_cons hA
  obtain ⟨v1, vs2, d1, ds2, p1, ps2, rfl, rfl, rfl, h1, hA3⟩ := trodAll_cons hA2
  obtain ⟨rfl, rfl, rfl⟩ := trodAll_nil hA3
  obtain rfl : args = #[v0, v1] := Array.ext' (by simpa using hargs)
  obtain ⟨rfl, rfl⟩ := trodVars_none hV
  obtain ⟨l, hl, hd, hll⟩ := open_evs (hval 0 27 v0 rfl rfl) h0 (fun n hn => by
    have := List.all_eq_true.1 hsz _ (DataW.weights_mem_each (j := 0) (t := 27) rfl rfl n hn)
    simpa using this)
  obtain ⟨m, hm, hmd, hml⟩ := open_evs (hval 1 27 v1 rfl rfl) h1 (fun n hn => by
    have := List.all_eq_true.1 hsz _ (DataW.weights_mem_each (j := 1) (t := 27) rfl rfl n hn)
    simpa using this)
  rw [reachBytes] at hd hll hmd hml
  clear hA0 hval0 hsz0 hsz
  have hlt := hW'.lt
  refine (jphases_any v0 v1 l m W hl hm (fun j hj => Nat.le_trans (hd j hj) (by decide)) (by omega) (fun j hj => Nat.le_trans (hmd j hj) (by decide)) (by omega)).mono fun e W' ⟨he, hw⟩ => ?_
  subst he
  exact ⟨_, rfl, _, _, _, [], _, [], hW', trodAll_mk1 (shut_bool Try.underlying4 true), trodAll_stays Try.laidOut (hw.below (Nat.le_refl _) fun _ h => h.elim) (by kernel_rfl) hA1 (fun x hx => hlt x (by simpa using hx)), rfl, kept_of_only hw _, fun h => by cases h⟩
theorem phases_holds : Rows.JudgePhasesSaid :=
  OpenClaim.holds_of_wide 7 Try.f7 rfl rfl rfl rfl rfl rfl rfl ⟨rfl, rfl, rfl, rfl, rfl⟩ rfl rfl rfl rfl rfl (by kernel_rfl) Try.func7 (by kernel_rfl)
    (of_decide_eq_true (by kernel_rfl)) (by unfold Func.isWrapper; rw [if_neg (by decide +kernel)]; exact ⟨rfl, rfl⟩)
    (fun os started H enc _ => phases_lifted os started H enc)
end Go.Proofs.Ythoaeolohnalnaa
