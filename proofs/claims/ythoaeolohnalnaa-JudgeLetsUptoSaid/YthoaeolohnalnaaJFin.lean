/-
  JudgeFinds answers true for every configuration and any two traces: the walk, and the given row proved.
-/
import Derived.Test.YthoaeolohnalnaaRow4
import Derived.Test.YthoaeolohnalnaaRj
import Derived.Test.YthoaeolohnalnaaRl
import Derived.Test.YthoaeolohnalnaaJl
namespace Go.Proofs.Ythoaeolohnalnaa
open Go.RowKit

def lentL (l : List Ev) (gs : Nat → Nat) : List Ev := (List.range l.length).map fun j => lentE (l.getD j ev0) (gs j)
theorem lentL_len (l : List Ev) (gs : Nat → Nat) : (lentL l gs).length = l.length := by simp [lentL]
theorem lentL_get (l : List Ev) (gs : Nat → Nat) {j : Nat} (h : j < l.length) : (lentL l gs).getD j ev0 = lentE (l.getD j ev0) (gs j) := getD_map_range _ _ _ _ h
theorem evs_lent {W w0 : World} {g : Nat} {v : Value} {l : List Ev} {gs : Nat → Nat} (hv : Evs w0 v l) (hL : LentTo W g l l.length gs) (hR : EvRow W g (l.length + 2) (allE l gs)) : Evs W (.slice (some ⟨g, 0, none⟩) l.length (l.length + 2)) (lentL l gs) := by
  refine ⟨_, _, by rw [lentL_len], by rw [lentL_len]; omega, fun _ => ⟨g, 0, rfl, fun j hj => ?_⟩⟩
  rw [lentL_len] at hj
  rw [lentL_get _ _ hj]
  refine ⟨fun i hi => ?_, ?_⟩
  · have h1 := hR.cell j (by omega) i hi
    unfold allE at h1
    rw [if_pos hj] at h1
    rw [Nat.zero_add]
    exact h1
  · obtain ⟨A, c, rfl, _⟩ := hv.form
    obtain ⟨_, _, _, _, hok⟩ := hv.at hj
    refine ⟨hok.ip0, hok.ip1, _, _, rfl, by show (l.getD j ev0).data.length ≤ (l.getD j ev0).data.length + 2; omega, fun _ => ⟨gs j, 0, rfl, fun i hi => ?_⟩⟩
    have hi2 : i < (l.getD j ev0).data.length := hi
    rw [Nat.zero_add, (hL.blk j hj).cell, BC_append, List.getElem?_append_left (by rw [BC_length]; exact hi2)]
    exact BC_get _ _ hi2
theorem st_lent (c : Cfg) (l : List Ev) (gs : Nat → Nat) : ∀ k, k ≤ l.length → stP c (lentL l gs) k = stP c l k
  | 0, _ => rfl
  | k + 1, h => by
    show (askP c (stP c (lentL l gs) k) ((lentL l gs).getD k ev0) (decide (k = 0))).2 = (askP c (stP c l k) (l.getD k ev0) (decide (k = 0))).2
    rw [st_lent c l gs k (by omega), lentL_get _ _ (by omega), ask_bare c _ (l.getD k ev0) (lentE (l.getD k ev0) (gs k)) _ ⟨rfl, rfl, rfl, rfl, rfl, rfl, rfl⟩]
theorem ru_lent (c : Cfg) (l : List Ev) (gs : Nat → Nat) {k : Nat} (h : k < l.length) : ruP c (lentL l gs) k = ruP c l k := by
  unfold ruP
  rw [st_lent c l gs k (by omega), lentL_get _ _ h, ask_bare c _ (l.getD k ev0) (lentE (l.getD k ev0) (gs k)) _ ⟨rfl, rfl, rfl, rfl, rfl, rfl, rfl⟩]
theorem says_lent {c : Cfg} {l : List Ev} {gs : Nat → Nat} {a x y : Int} (h : Says c (lentL l gs) a x y) : Says c l a x y := by
  rcases h with ⟨h1, h2⟩ | ⟨k, hk, h1, h2, h3, h4, h5⟩
  · refine .inl ⟨fun k hk => ?_, h2⟩
    rw [← ru_lent c l gs hk]
    exact h1 k (by rw [lentL_len]; exact hk)
  · rw [lentL_len] at hk
    rw [ru_lent c l gs hk] at h2 h4
    exact .inr ⟨k, hk, fun j hj => by rw [← ru_lent c l gs (by omega)]; exact h1 j hj, h2, h3, h4, h5⟩
set_option maxHeartbeats 6400000 in
set_option maxRecDepth 100000 in
theorem finds_any (c : Cfg) (v v2 : Value) (l m : List Ev) (w : World) (hc : c.ok) (hv : Evs w v l) (hv2 : Evs w v2 m) (hd : ∀ j, j < l.length → (l.getD j ev0).data.length ≤ 140737488355328) (hn : l.length ≤ 1000000000000000)
    (hd2 : ∀ j, j < m.length → (m.getD j ev0).data.length ≤ 140737488355328) (hn2 : m.length ≤ 1000000000000000) :
    Calls Try.prog 6 #[.agg c.cells.toArray, v, v2] w fun r w' => r = .returned (.bool true) ∧ Only Nil w w' := by
  have hsz : c.cells.toArray.size = 45 := by rw [List.size_toArray, hc.length]
  have A1 := Lib.hid (show ∀ W, Only Nil w W → Evs W v l from fun W ho => hv.nil ho)
  have A2 := Lib.hid (show ∀ W, Only Nil w W → Evs W v2 m from fun W ho => hv2.nil ho)
  have HC := Lib.hid hc
  have HD := Lib.hid hd
  have HD2 := Lib.hid hd2
  obtain ⟨A, cp, rfl, hcp, _⟩ := hv
  obtain ⟨A2', cp2, rfl, hcp2, _⟩ := hv2
  clear hc hd hd2
  go_enter Try.func6, Try.ntmps6
  go_upto_region 1 with fail
  obtain ⟨b, hb⟩ : ∃ b, w.heap.size = b := ⟨_, rfl⟩
  refine wp_gen (fun W => Only Nil w W ∧ Blk W b 26 c.cells) ⟨(Only.refl _ _).alloc _, hb ▸ Blk.new w _ _⟩ ?_
  rw [hb]
  have HB := Lib.hid hb
  clear hb
  intro w1 h1
  have H1 := Lib.hid h1
  clear h1
  go_upto_region 2 with (go_at_call 10; refine (beyond_any _ l _ (A1.out _ H1.out.1) HD.out hn).mono ?_; rintro r w2 ⟨rfl, rfl⟩)
  go_upto_region 3 with (go_at_call 10; refine (beyond_any _ m _ (A2.out _ H1.out.1) HD2.out hn2).mono ?_; rintro r w2 ⟨rfl, rfl⟩)
  cases hbe : beyE l
  case true =>
    clear hbe
    go_wp2
    go_ret
    exact ⟨rfl, H1.out.1⟩
  obtain ⟨hl1, _⟩ := beyE_false hbe
  clear hbe
  cases hbe2 : beyE m
  case true =>
    clear hbe2
    go_wp2
    go_ret
    exact ⟨rfl, H1.out.1⟩
  obtain ⟨hm1, _⟩ := beyE_false hbe2
  clear hbe2
  go_upto_region 5 with fail
  go_upto_region 6 with (go_at_call 11; refine (live_any _).mono ?_; rintro r w2 ⟨rfl, ho2⟩)
  refine wp_gen (fun W => Only Nil w W ∧ Blk W b 26 c.cells) ⟨H1.out.1.then ho2, ho2.blk H1.out.2 id⟩ ?_
  clear H1 ho2
  intro w1 h1
  have H1 := Lib.hid h1
  clear h1
  go_upto_region 7 with (go_at_call 17; refine (lent_any _ l _ (A1.out _ H1.out.1) HD.out (by omega)).mono ?_; rintro r w2 ⟨gs, rfl, hL2, hR2, ho2⟩)
  obtain ⟨g, hg⟩ : ∃ g, w1.heap.size = g := ⟨_, rfl⟩
  rw [hg] at hL2 hR2 ⊢
  have hgb : b < g := hg ▸ H1.out.2.lt
  refine wp_gen (fun W => (Only Nil w W ∧ Blk W b 26 c.cells) ∧ LentTo W g l l.length gs ∧ EvRow W g (l.length + 2) (allE l gs)) ⟨⟨H1.out.1.then ho2, ho2.blk H1.out.2 id⟩, hL2, hR2⟩ ?_
  clear H1 ho2 hL2 hR2 hg
  intro w2 h2
  have H2 := Lib.hid h2
  have HLen := Lib.hid (lentL_len l gs)
  clear h2
  go_upto_region 8 with (first
    | ((with_reducible show wpList _ _ _ (Oper.mk _ (.load 26 _) _ _ _ _ :: _) _ _); refine wpList_load_row rfl 26 (.tmp 3) rfl b rfl 26 c.cells.toArray (0, 0) _ (H2.out.1.2) Try.underlying26 rfl (by rw [hsz]; kernel_rfl) ?_)
    | (go_at_call 12; refine (judge_any c _ (lentL l gs) _ HC.out (evs_lent (A1.out _ (Only.refl _ _)) H2.out.2.1 H2.out.2.2) (by rw [HLen.out]; omega)).mono ?_; rintro r w3 ⟨⟨a1, x1, y1, rfl, hs1⟩, ho3⟩))
  have HS1 := Lib.hid (says_lent hs1)
  clear hs1
  refine wp_gen (fun W => (Only Nil w W ∧ Blk W b 26 c.cells) ∧ LentTo W g l l.length gs ∧ EvRow W g (l.length + 2) (allE l gs)) ⟨⟨H2.out.1.1.then ho3, ho3.blk H2.out.1.2 id⟩, H2.out.2.1.only ho3 fun _ _ => id, H2.out.2.2.only ho3 id⟩ ?_
  clear H2 ho3
  intro w2 h2
  have H2 := Lib.hid h2
  clear h2
  go_upto_region 9 with (first
    | ((with_reducible show wpList _ _ _ (Oper.mk _ (.load 26 _) _ _ _ _ :: _) _ _); refine wpList_load_row rfl 26 (.tmp 3) rfl b rfl 26 c.cells.toArray (0, 0) _ (H2.out.1.2) Try.underlying26 rfl (by rw [hsz]; kernel_rfl) ?_)
    | (go_at_call 12; refine (judge_any c _ m _ HC.out (A2.out _ H2.out.1.1) (by omega)).mono ?_; rintro r w3 ⟨⟨a2, x2, y2, rfl, hs2⟩, ho3⟩))
  have HS2 := Lib.hid hs2
  clear hs2
  refine wp_gen (fun W => (Only Nil w W ∧ Blk W b 26 c.cells) ∧ LentTo W g l l.length gs ∧ EvRow W g (l.length + 2) (allE l gs)) ⟨⟨H2.out.1.1.then ho3, ho3.blk H2.out.1.2 id⟩, H2.out.2.1.only ho3 fun _ _ => id, H2.out.2.2.only ho3 id⟩ ?_
  clear H2 ho3
  intro w2 h2
  have H2 := Lib.hid h2
  clear h2
  go_upto_region 10 with (first
    | ((with_reducible show wpList _ _ _ (Oper.mk _ (.load 26 _) _ _ _ _ :: _) _ _); refine wpList_load_row rfl 26 (.tmp 3) rfl b rfl 26 c.cells.toArray (0, 0) _ (H2.out.1.2) Try.underlying26 rfl (by rw [hsz]; kernel_rfl) ?_)
    | (go_at_call 12; refine (judge_any c _ (lentL l gs) _ HC.out (evs_lent (A1.out _ (Only.refl _ _)) H2.out.2.1 H2.out.2.2) (by rw [HLen.out]; omega)).mono ?_; rintro r w3 ⟨⟨a3, x3, y3, rfl, hs3⟩, ho3⟩))
  have HS3 := Lib.hid (says_lent hs3)
  clear hs3
  refine wp_gen (fun W => (Only Nil w W ∧ Blk W b 26 c.cells) ∧ LentTo W g l l.length gs ∧ EvRow W g (l.length + 2) (allE l gs)) ⟨⟨H2.out.1.1.then ho3, ho3.blk H2.out.1.2 id⟩, H2.out.2.1.only ho3 fun _ _ => id, H2.out.2.2.only ho3 id⟩ ?_
  clear H2 ho3
  intro w2 h2
  have H2 := Lib.hid h2
  clear h2
  have hwg : w.heap.size ≤ g := by rw [HB.out]; omega
  go_upto_region 11 with (go_at_call 18; refine (asLent_any g gs _ l w _ (A1.out _ (Only.refl _ _)) H2.out.1.1 hwg H2.out.2.1 H2.out.2.2 HD.out (by omega)).mono ?_; rintro r w3 ⟨rfl, ho3⟩)
  refine wp_gen (fun W => Only Nil w W ∧ Blk W b 26 c.cells) ⟨H2.out.1.1.trans ho3 fun i hi => .inr (Nat.le_trans hwg hi), ho3.blk H2.out.1.2 (by intro h; have : g ≤ b := h; omega)⟩ ?_
  clear H2 ho3
  intro w2 h2
  have H2 := Lib.hid h2
  clear h2
  go_upto_region 12 with (first
    | ((with_reducible show wpList _ _ _ (Oper.mk _ (.load 26 _) _ _ _ _ :: _) _ _); refine wpList_load_row rfl 26 (.tmp 3) rfl b rfl 26 c.cells.toArray (0, 0) _ H2.out.2 Try.underlying26 rfl (by rw [hsz]; kernel_rfl) ?_)
    | (go_at_call 19; refine (rjudge_any c _ l _ HC.out (A1.out _ H2.out.1) (by omega)).mono ?_; rintro r w3 ⟨⟨a4, x4, y4, rfl, hs4⟩, ho3⟩))
  refine wp_gen (fun W => Only Nil w W ∧ Blk W b 26 c.cells) ⟨H2.out.1.then ho3, ho3.blk H2.out.2 id⟩ ?_
  clear H2 ho3
  intro w2 h2
  have H2 := Lib.hid h2
  clear h2
  obtain ⟨rfl, rfl, rfl⟩ := says_same HS1.out hs4
  obtain ⟨rfl, rfl, rfl⟩ := says_same HS3.out hs4
  clear HS1 HS3 hs4
  go_upto_region 13 with (first
    | ((with_reducible show wpList _ _ _ (Oper.mk _ (.load 26 _) _ _ _ _ :: _) _ _); refine wpList_load_row rfl 26 (.tmp 3) rfl b rfl 26 c.cells.toArray (0, 0) _ H2.out.2 Try.underlying26 rfl (by rw [hsz]; kernel_rfl) ?_)
    | (go_at_call 19; refine (rjudge_any c _ m _ HC.out (A2.out _ H2.out.1) (by omega)).mono ?_; rintro r w3 ⟨⟨a5, x5, y5, rfl, hs5⟩, ho3⟩))
  refine wp_gen (fun W => Only Nil w W) (H2.out.1.then ho3) ?_
  clear H2 ho3
  intro w2 h2
  have H2 := Lib.hid h2
  clear h2
  obtain ⟨rfl, rfl, rfl⟩ := says_same HS2.out hs5
  clear HS2 hs5
  have hbb : ∀ x : Int, (x == x) = true := fun x => by simp
  have e0 := hbb a2
  have e1 := hbb x2
  have e2 := hbb y2
  have e3 := hbb a3
  have e4 := hbb x3
  have e5 := hbb y3
  clear hbb
  go_wp2
  go_ret
  exact ⟨rfl, H2.out⟩

open Go.ChangeShapes Go.WideShapes Go.ChangeAt
def fCells : List Value := List.replicate 6 (.int .u8 0) ++ (Value.int .i64 0 :: Value.int .i64 0 :: Value.string ⟨#[]⟩ :: List.replicate 32 (Value.int .u8 0)) ++ List.replicate 4 (Value.int .i64 0)
def fCfg : Value := .agg fCells.toArray
set_option maxRecDepth 100000 in
theorem finds_lifted (os : Os) (started : os.Started) (H : Type) (enc : TypeId × Value → H) :
    ReturnsInHanded {} Try.checked os 6 .any (Rows.judgeFindsSpec.pre6 enc Try.prog Try.f6 Rows.judgeFindsRow.domain false) (Rows.judgeFindsSpec.post enc Try.prog Try.f6 false true false false) := by
  refine returnsInHanded_of_change_sized (C := Try.checked) Try.own started (by kernel_rfl) Try.func6
    (ChangeSpec.witness6 (enc := enc) (C := Try.checked) false ⟨#[], #[fCfg, .slice none 0 0, .slice none 0 0], []⟩ 8 (by kernel_rfl) (by kernel_rfl) (by kernel_rfl) (by kernel_rfl)) ?_
  intro W base args ds gs before hval0 hW hcnd hsz0 _
  have hval : ∀ (j : Nat) t v, Try.f6.params[j]? = some t → args[j]? = some v → Value.okWide Try.prog W .any base t v := hval0
  have hsz : (DataW.weightsEach Try.prog (Try.f6.params.toList ++ Rows.judgeFindsSpec.plain.varTypes Try.prog) (ds ++ gs)).all (· ≤ reachBytes) = true := hsz0
  have hW' := hW
  obtain ⟨p, q, hA0, hV, rfl, hfz, hnd⟩ := hW
  have hA : DataW.TrodAll enc Try.prog W 0 (fun _ => true) true Try.f6.params.toList args.toList ds p := hA0
  rw [Try.params6] at hA hval hsz
  have hA1 := hA
  obtain ⟨v0, vs1, d0, ds1, p0, ps1, hargs, rfl, rfl, h0, hA2⟩ := trodAll_cons hA
  obtain ⟨v1, vs2, d1, ds2, p1, ps2, rfl, rfl, rfl, h1, hA3⟩ := trodAll_cons hA2
  obtain ⟨v2, vs3, d2, ds3, p2, ps3, rfl, rfl, rfl, h2, hA4⟩ := trodAll_cons hA3
  obtain ⟨rfl, rfl, rfl⟩ := trodAll_nil hA4
  obtain rfl : args = #[v0, v1, v2] := Array.ext' (by simpa using hargs)
  obtain ⟨rfl, rfl⟩ := trodVars_none hV
  obtain ⟨c, rfl, hc⟩ := open_cfg (hval 0 26 v0 rfl rfl) h0
  obtain ⟨l, hl, hd, hll⟩ := open_evs (hval 1 27 v1 rfl rfl) h1 (fun n hn => by
    have := List.all_eq_true.1 hsz _ (DataW.weights_mem_each (j := 1) (t := 27) rfl rfl n hn)
    simpa using this)
  obtain ⟨m, hm, hmd, hml⟩ := open_evs (hval 2 27 v2 rfl rfl) h2 (fun n hn => by
    have := List.all_eq_true.1 hsz _ (DataW.weights_mem_each (j := 2) (t := 27) rfl rfl n hn)
    simpa using this)
  rw [reachBytes] at hd hll hmd hml
  clear hA0 hval0 hsz0 hsz
  have hlt := hW'.lt
  refine (finds_any c v1 v2 l m W hc hl hm (fun j hj => Nat.le_trans (hd j hj) (by decide)) (by omega) (fun j hj => Nat.le_trans (hmd j hj) (by decide)) (by omega)).mono fun e W' ⟨he, hw⟩ => ?_
  subst he
  exact ⟨_, rfl, _, _, _, [], _, [], hW', trodAll_mk1 (shut_bool Try.underlying4 true), trodAll_stays Try.laidOut (hw.below (Nat.le_refl _) fun _ h => h.elim) (by kernel_rfl) hA1 (fun x hx => hlt x (by simpa using hx)), rfl, kept_of_only hw _, fun h => by cases h⟩
theorem finds_holds : Rows.JudgeFindsSaid :=
  OpenClaim.holds_of_wide 6 Try.f6 rfl rfl rfl rfl rfl rfl rfl ⟨rfl, rfl, rfl, rfl, rfl⟩ rfl rfl rfl rfl rfl (by kernel_rfl) Try.func6 (by kernel_rfl)
    (of_decide_eq_true (by kernel_rfl)) (by unfold Func.isWrapper; rw [if_neg (by decide +kernel)]; exact ⟨rfl, rfl⟩)
    (fun os started H enc _ => finds_lifted os started H enc)
end Go.Proofs.Ythoaeolohnalnaa
