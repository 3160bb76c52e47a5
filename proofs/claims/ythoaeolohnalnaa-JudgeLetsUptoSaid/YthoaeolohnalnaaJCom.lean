/-
  JudgeComes answers true for every configuration and every trace: the walk, and the given row proved.
-/
import Derived.Test.YthoaeolohnalnaaRow4
import Derived.Test.YthoaeolohnalnaaJq
namespace Go.Proofs.Ythoaeolohnalnaa
open Go.RowKit

theorem link_all {c : Cfg} {l : List Ev} (h : ∀ k, k < l.length → ruP c l k = 0) : ∀ k, k ≤ l.length → Link c (stP c l k) (toP l k)
  | 0, _ => link0 c
  | k + 1, hk => link_step (link_all h k (by omega)) (h k (by omega))
theorem tale_clean {c : Cfg} {l : List Ev} {a x : Int} (h : Says c l a x 0) : (toP l l.length).done + (toP l l.length).up ≤ 1 ∧ (toP l l.length).behind = false ∧ (toP l l.length).wrong = false ∧ (1 ≤ c.att → (toP l l.length).fails ≤ c.att) := by
  rcases h with ⟨h0, _⟩ | ⟨_, _, _, _, _, _, h9⟩
  · have hL := link_all h0 l.length (Nat.le_refl _)
    refine ⟨?_, hL.behind, hL.wrong, fun ha => ?_⟩
    · rw [hL.ends]
      split <;> decide
    · rw [hL.fails]
      exact (hL.most ha).1
  · exact absurd h9 (by decide)
theorem cfg_att {W : World} {b : Nat} {c : Cfg} (hc : c.ok) (h : Blk W b 26 c.cells) : W.cell? ⟨b, 44, none⟩ = some (.int .i64 c.att) := by
  rw [h.cell]
  unfold Cfg.cells
  rw [List.getElem?_append_right (by rw [BC_length, hc.mac]; omega), BC_length, hc.mac, List.getElem?_append_right (by rw [hc.mid]; omega), hc.mid]
  rfl
set_option maxHeartbeats 6400000 in
set_option maxRecDepth 100000 in
theorem comes_any (c : Cfg) (v : Value) (l : List Ev) (w : World) (hc : c.ok) (hv : Evs w v l) (hd : ∀ j, j < l.length → (l.getD j ev0).data.length ≤ 140737488355328) (hn : l.length ≤ 1000000000000000) :
    Calls Try.prog 3 #[.agg c.cells.toArray, v] w fun r w' => r = .returned (.bool true) ∧ Only Nil w w' := by
  have hsz : c.cells.toArray.size = 45 := by rw [List.size_toArray, hc.length]
  have A1 := Lib.hid (show ∀ W, Only Nil w W → Evs W v l from fun W ho => hv.nil ho)
  have HC := Lib.hid hc
  have HD := Lib.hid hd
  obtain ⟨A, cp, rfl, hcp, _⟩ := hv
  clear hc hd
  go_enter Try.func3, Try.ntmps3
  go_upto_region 1 with fail
  obtain ⟨b, hb⟩ : ∃ b, w.heap.size = b := ⟨_, rfl⟩
  refine wp_gen (fun W => Only Nil w W ∧ Blk W b 26 c.cells) ⟨(Only.refl _ _).alloc _, hb ▸ Blk.new w _ _⟩ ?_
  rw [hb]
  clear hb
  intro w1 h1
  have H1 := Lib.hid h1
  clear h1
  go_upto_region 2 with (go_at_call 10; refine (beyond_any _ l _ (A1.out _ H1.out.1) HD.out hn).mono ?_; rintro r w2 ⟨rfl, rfl⟩)
  cases hbe : beyE l
  case true =>
    go_wp2
    go_ret
    exact ⟨rfl, H1.out.1⟩
  case false =>
    obtain ⟨hl1, _⟩ := beyE_false hbe
    clear hbe
    go_upto_region 5 with (go_at_call 11; refine (live_any _).mono ?_; rintro r w2 ⟨rfl, ho2⟩)
    refine wp_gen (fun W => Only Nil w W ∧ Blk W b 26 c.cells) ⟨H1.out.1.then ho2, ho2.blk H1.out.2 id⟩ ?_
    clear H1 ho2
    intro w1 h1
    have H1 := Lib.hid h1
    clear h1
    go_upto_region 6 with (first
      | ((with_reducible show wpList _ _ _ (Oper.mk _ (.load 26 _) _ _ _ _ :: _) _ _); refine wpList_load_row rfl 26 (.tmp 2) rfl b rfl 26 c.cells.toArray (0, 0) _ H1.out.2 Try.underlying26 rfl (by rw [hsz]; kernel_rfl) ?_)
      | (go_at_call 12; refine (judge_any c _ l _ HC.out (A1.out _ H1.out.1) (by omega)).mono ?_; rintro r w2 ⟨⟨a, x, y, rfl, hs⟩, ho2⟩))
    refine wp_gen (fun W => Only Nil w W ∧ Blk W b 26 c.cells) ⟨H1.out.1.then ho2, ho2.blk H1.out.2 id⟩ ?_
    clear H1 ho2
    intro w1 h1
    have H1 := Lib.hid h1
    clear h1
    have hy : y = 0 ∨ y = 270 := by
      rcases hs with ⟨_, _, _, h⟩ | ⟨_, _, _, _, _, _, h⟩
      · exact .inl h
      · exact .inr h
    rcases hy with rfl | rfl
    · obtain ⟨t1, t2, t3, t4⟩ := tale_clean hs
      clear hs
      go_upto_region 8 with fail
      have hcall := told_any _ l w1 (A1.out _ H1.out.1) (by omega)
      obtain ⟨u0, u1, u2, u3, u4, u5⟩ := to_bounds l l.length
      generalize toP l l.length = t at *
      obtain ⟨tf, td, tu, tb, tw, th, ti, tt⟩ := t
      simp only at t1 t2 t3 t4 u0 u1 u2 u3 u4 u5
      subst t2 t3
      unfold Tl.cells at hcall
      go_upto_region 9 with (go_at_call 13; refine hcall.mono ?_; rintro r w2 ⟨rfl, ho2⟩)
      obtain ⟨p, hp⟩ : ∃ p, w2.heap.size = p := ⟨_, rfl⟩
      refine wp_gen (fun W => Only Nil w W ∧ Blk W b 26 c.cells ∧ Blk W p 34 [.int .i64 tf, .int .i64 td, .int .i64 tu, .bool false, .bool false]) ⟨(H1.out.1.then ho2).alloc _, (ho2.blk H1.out.2 id).alloc _, hp ▸ Blk.new w2 _ _⟩ ?_
      rw [hp]
      clear H1 ho2 hp hcall
      intro w3 h3
      have c44 := cfg_att HC.out h3.2.1
      have q0 : w3.cell? ⟨p, 0, none⟩ = some (.int .i64 tf) := h3.2.2.cell 0
      have q1 : w3.cell? ⟨p, 1, none⟩ = some (.int .i64 td) := h3.2.2.cell 1
      have q2 : w3.cell? ⟨p, 2, none⟩ = some (.int .i64 tu) := h3.2.2.cell 2
      have q3 : w3.cell? ⟨p, 3, none⟩ = some (.bool false) := h3.2.2.cell 3
      have q4 : w3.cell? ⟨p, 4, none⟩ = some (.bool false) := h3.2.2.cell 4
      have H3 := Lib.hid h3.1
      clear h3
      generalize c.att = at' at *
      by_cases ha : at' < 1
      · clear t4
        go_wp2
        go_ret
        exact ⟨rfl, H3.out⟩
      · have t5 := t4 (by omega)
        clear t4
        go_wp2
        go_ret
        exact ⟨rfl, H3.out⟩
    · clear hs
      go_wp2
      go_ret
      exact ⟨rfl, H1.out.1⟩

open Go.ChangeShapes Go.WideShapes Go.ChangeAt
def yCells : List Value := List.replicate 6 (.int .u8 0) ++ (Value.int .i64 0 :: Value.int .i64 0 :: Value.string ⟨#[]⟩ :: List.replicate 32 (Value.int .u8 0)) ++ List.replicate 4 (Value.int .i64 0)
def yCfg : Value := .agg yCells.toArray
set_option maxRecDepth 100000 in
theorem comes_lifted (os : Os) (started : os.Started) (H : Type) (enc : TypeId × Value → H) :
    ReturnsInHanded {} Try.checked os 3 .any (Rows.judgeComesSpec.pre6 enc Try.prog Try.f3 Rows.judgeComesRow.domain false) (Rows.judgeComesSpec.post enc Try.prog Try.f3 false true false false) := by
  refine returnsInHanded_of_change_sized (C := Try.checked) Try.own started (by kernel_rfl) Try.func3
    (ChangeSpec.witness6 (enc := enc) (C := Try.checked) false ⟨#[], #[yCfg, .slice none 0 0], []⟩ 8 (by kernel_rfl) (by kernel_rfl) (by kernel_rfl) (by kernel_rfl)) ?_
  intro W base args ds gs before hval0 hW hcnd hsz0 _
  have hval : ∀ (j : Nat) t v, Try.f3.params[j]? = some t → args[j]? = some v → Value.okWide Try.prog W .any base t v := hval0
  have hsz : (DataW.weightsEach Try.prog (Try.f3.params.toList ++ Rows.judgeComesSpec.plain.varTypes Try.prog) (ds ++ gs)).all (· ≤ reachBytes) = true := hsz0
  have hW' := hW
  obtain ⟨p, q, hA0, hV, rfl, hfz, hnd⟩ := hW
  have hA : DataW.TrodAll enc Try.prog W 0 (fun _ => true) true Try.f3.params.toList args.toList ds p := hA0
  rw [Try.params3] at hA hval hsz
  have hA1 := hA
  obtain ⟨v0, vs1, d0, ds1, p0, ps1, hargs, rfl, rfl, h0, hA2⟩ := trodAll_cons hA
  obtain ⟨v1, vs2, d1, ds2, p1, ps2, rfl, rfl, rfl, h1, hA3⟩ := trodAll_cons hA2
  obtain ⟨rfl, rfl, rfl⟩ := trodAll_nil hA3
  obtain rfl : args = #[v0, v1] := Array.ext' (by simpa using hargs)
  obtain ⟨rfl, rfl⟩ := trodVars_none hV
  obtain ⟨c, rfl, hc⟩ := open_cfg (hval 0 26 v0 rfl rfl) h0
  obtain ⟨l, hl, hd, hll⟩ := open_evs (hval 1 27 v1 rfl rfl) h1 (fun n hn => by
    have := List.all_eq_true.1 hsz _ (DataW.weights_mem_each (j := 1) (t := 27) rfl rfl n hn)
    simpa using this)
  rw [reachBytes] at hd hll
  clear hA0 hval0 hsz0 hsz
  have hlt := hW'.lt
  refine (comes_any c v1 l W hc hl (fun j hj => Nat.le_trans (hd j hj) (by decide)) (by omega)).mono fun e W' ⟨he, hw⟩ => ?_
  subst he
  exact ⟨_, rfl, _, _, _, [], _, [], hW', trodAll_mk1 (shut_bool Try.underlying4 true), trodAll_stays Try.laidOut (hw.below (Nat.le_refl _) fun _ h => h.elim) (by kernel_rfl) hA1 (fun x hx => hlt x (by simpa using hx)), rfl, kept_of_only hw _, fun h => by cases h⟩
theorem comes_holds : Rows.JudgeComesSaid :=
  OpenClaim.holds_of_wide 3 Try.f3 rfl rfl rfl rfl rfl rfl rfl ⟨rfl, rfl, rfl, rfl, rfl⟩ rfl rfl rfl rfl rfl (by kernel_rfl) Try.func3 (by kernel_rfl)
    (of_decide_eq_true (by kernel_rfl)) (by unfold Func.isWrapper; rw [if_neg (by decide +kernel)]; exact ⟨rfl, rfl⟩)
    (fun os started H enc _ => comes_lifted os started H enc)
end Go.Proofs.Ythoaeolohnalnaa
