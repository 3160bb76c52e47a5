/-
  The judge of a whole trace: the first event that is at fault, and by which rule.
-/
import Derived.Test.YthoaeolohnalnaaJh
import Derived.WalkMore
namespace Go.Proofs.Ythoaeolohnalnaa
open Go.RowKit

def lk0 : Lk := ⟨0, false, 0, 0, false, false, 0, 0, 0⟩
def ev0 : Ev := ⟨0, 0, 0, 0, 0, 0, none, 0, []⟩
/-- The state behind the first k events, and the rule of the event behind them. -/
def stP (c : Cfg) (l : List Ev) : Nat → Lk
  | 0 => lk0
  | k + 1 => (askP c (stP c l k) (l.getD k ev0) (decide (k = 0))).2
def ruP (c : Cfg) (l : List Ev) (k : Nat) : Int := (askP c (stP c l k) (l.getD k ev0) (decide (k = 0))).1
/-- What the judge says. -/
def Says (c : Cfg) (l : List Ev) (at' rule err : Int) : Prop :=
  ((∀ k, k < l.length → ruP c l k = 0) ∧ at' = -1 ∧ rule = 0 ∧ err = 0) ∨ ∃ k, k < l.length ∧ (∀ j, j < k → ruP c l j = 0) ∧ ruP c l k ≠ 0 ∧ at' = (k : Nat) ∧ rule = ruP c l k ∧ err = 270
theorem ask_fails (c : Cfg) (s : Lk) (e : Ev) (f : Bool) : (askP c s e f).2.fails = s.fails ∨ (askP c s e f).2.fails = s.fails + 1 := by
  unfold askP ruleP
  repeat' split
  all_goals first
    | exact .inl rfl
    | (unfold adoptP; split <;> exact .inl rfl)
    | (unfold dropP; split <;> exact .inl rfl)
    | (unfold fetchP; split <;> exact .inl rfl)
    | (unfold handoffP; split <;> exact .inl rfl)
    | (unfold failP; split <;> first | exact .inl rfl | exact .inr rfl)
theorem st_fails (c : Cfg) (l : List Ev) : ∀ k, 0 ≤ (stP c l k).fails ∧ (stP c l k).fails ≤ (k : Nat)
  | 0 => ⟨Int.le_refl _, Int.le_refl _⟩
  | k + 1 => by
    have ih := st_fails c l k
    have := ask_fails c (stP c l k) (l.getD k ev0) (decide (k = 0))
    show 0 ≤ (askP c (stP c l k) (l.getD k ev0) (decide (k = 0))).2.fails ∧ (askP c (stP c l k) (l.getD k ev0) (decide (k = 0))).2.fails ≤ ((k + 1 : Nat) : Int)
    omega
/-- 'v' is a slice of events that reads as l. -/
def Evs (W : World) (v : Value) (l : List Ev) : Prop :=
  ∃ A c, v = .slice A l.length c ∧ l.length ≤ c ∧ (0 < l.length → ∃ g o, A = some ⟨g, o, none⟩ ∧ ∀ j, j < l.length → (∀ i, i < 7 → W.cell? ⟨g, o + j * 7 + i, none⟩ = (l.getD j ev0).cells[i]?) ∧ (l.getD j ev0).ok W)
theorem Evs.nil {W W' : World} {v : Value} {l : List Ev} (h : Evs W v l) (ho : Only Nil W W') : Evs W' v l := by
  obtain ⟨A, c, rfl, hc, hr⟩ := h
  refine ⟨A, c, rfl, hc, fun h0 => ?_⟩
  obtain ⟨g, o, rfl, hcell⟩ := hr h0
  refine ⟨g, o, rfl, fun j hj => ⟨fun i hi => ?_, ((hcell j hj).2).off ho fun _ _ _ => id⟩⟩
  have h1 := (hcell j hj).1 i hi
  have hi7 : i < (l.getD j ev0).cells.length := hi
  rw [List.getElem?_eq_getElem hi7] at h1 ⊢
  exact ho.cell h1 id
theorem built_looks (cs : List Value) (h : cs.length = 45) : Try.prog.built 66 [(0, .agg cs.toArray)] = some (cs ++ lk0.tail).toArray := by
  match cs, h with
  | v0 :: v1 :: v2 :: v3 :: v4 :: v5 :: v6 :: v7 :: v8 :: v9 :: v10 :: v11 :: v12 :: v13 :: v14 :: v15 :: v16 :: v17 :: v18 :: v19 :: v20 :: v21 :: v22 :: v23 :: v24 :: v25 :: v26 :: v27 :: v28 :: v29 :: v30 :: v31 :: v32 :: v33 :: v34 :: v35 :: v36 :: v37 :: v38 :: v39 :: v40 :: v41 :: v42 :: v43 :: v44 :: [], _ =>
    show _ = _
    kernel_rfl
theorem wpList_built {P : Program} {ops : Array Oper} {rest : List Oper} {o : Oper} {a : Act} {w : World} {Q : Exit → Act → World → Prop} (hg : o.guard = none) (t : TypeId) (parts : Array (Nat × Operand)) (ho : o.op = .build t parts)
    (ps : List (Nat × Value)) (hp : (parts.map fun (i, x) => (i, a.eval x)).toList = ps) (cs : Array Value) (hf : P.built t ps = some cs)
    (h : wpList P ops Q rest (a.put o.dst (.agg cs)) w) : wpList P ops Q (o :: rest) a w := by
  subst hp
  refine wpList_build hg t parts ho (by rw [hf]; rfl) ?_
  rw [hf]
  exact h
set_option maxHeartbeats 3200000 in
theorem judge_any (c : Cfg) (v : Value) (l : List Ev) (w : World) (hc : c.ok) (hv : Evs w v l) (hn : l.length ≤ 1000000000000) :
    Calls Try.prog 12 #[.agg c.cells.toArray, v] w fun r w' => (∃ a x y, r = .returned (.tuple #[.int .i64 a, .int .i64 x, .int .i64 y]) ∧ Says c l a x y) ∧ Only Nil w w' := by
  have hsz : c.cells.toArray.size = 45 := by rw [List.size_toArray, hc.length]
  obtain ⟨A, cp, rfl, hcp, hrow⟩ := hv
  have HR := Lib.hid hrow
  have HC := Lib.hid hc
  clear hrow hc hcp
  go_enter Try.func12, Try.ntmps12
  go_upto_region 1 with fail
  refine wp_gen (fun W => Only Nil w W ∧ Blk W w.heap.size 26 c.cells) ⟨(Only.refl _ _).alloc _, Blk.new w _ _⟩ ?_
  intro w1 h1
  have H1 := Lib.hid h1
  clear h1
  obtain ⟨b2, hb2⟩ : ∃ b, w.heap.size = b := ⟨_, rfl⟩
  rw [hb2] at H1 ⊢
  go_step3
  go_wp2_with (first
    | ((with_reducible show wpList _ _ _ (Oper.mk _ (.load _ (.tmp 2)) _ _ _ _ :: _) _ _); refine wpList_load_row rfl 26 (.tmp 2) rfl b2 rfl 26 c.cells.toArray (0, 0) _ H1.out.2 Try.underlying26 rfl (by rw [hsz]; kernel_rfl) ?_)
    | ((with_reducible show wpList _ _ _ (Oper.mk _ (.build _ _) _ _ _ _ :: _) _ _); refine wpList_built rfl 66 _ rfl [(0, .agg c.cells.toArray)] (by kernel_rfl) (c.cells ++ lk0.tail).toArray (built_looks c.cells HC.out.length) ?_))
  go_step3
  go_wp2
  have hloop : ∀ k, k < l.length → ∃ ga oa, A = some ⟨ga, oa, none⟩ ∧ ∀ W, Only Nil w W → (∀ i, i < 7 → W.cell? ⟨ga, oa + k * 7 + i, none⟩ = (l.getD k ev0).cells[i]?) ∧ (l.getD k ev0).ok W := fun k hk => by
    obtain ⟨g, o, rfl, hcell⟩ := HR.out (by omega)
    refine ⟨g, o, rfl, fun W ho => ⟨fun i hi => ?_, ((hcell k hk).2).off ho fun _ _ _ => id⟩⟩
    have h1 := (hcell k hk).1 i hi
    have hi7 : i < (l.getD k ev0).cells.length := hi
    rw [List.getElem?_eq_getElem hi7] at h1 ⊢
    exact ho.cell h1 id
  have HLp := Lib.hid hloop
  have HO := Lib.hid (show ∀ k, k < l.length → 0 < (l.getD k ev0).data.length → ∀ x, blkOf (l.getD k ev0).d = some x → x < w.heap.size from fun k hk h0 x hx => by
    obtain ⟨g, o, _, hcell⟩ := HR.out (by omega)
    obtain ⟨x', e, hl⟩ := ((hcell k hk).2.rb).block h0
    rw [hx] at e
    injection e with e
    omega)
  obtain ⟨g, hg⟩ : ∃ b, w1.heap.size = b := ⟨_, rfl⟩
  have HS := Lib.hid (show Only Nil w (w1.alloc (.cells (c.cells ++ lk0.tail).toArray 66)) ∧ LkAt (w1.alloc (.cells (c.cells ++ lk0.tail).toArray 66)) g c lk0 from ⟨H1.out.1.alloc _, HC.out, hg ▸ Blk.new w1 _ _⟩)
  have HG := Lib.hid (show w.heap.size ≤ g by rw [← hg]; exact H1.out.1.size)
  (try rw [hg])
  clear H1 hg hloop HR
  go_loopw [8, 9, 17] (fun at' ru i wr => ∃ k : Nat, k ≤ l.length ∧ i = .int .i64 (k : Nat) ∧ at' = .int .i64 (-1) ∧ ru = .int .i64 0 ∧ (∀ j, j < k → ruP c l j = 0) ∧ Only Nil w wr ∧ LkAt wr g c (stP c l k)) (fun _ _ i _ => l.length - (intOf i).toNat)
  case atStart => exact ⟨0, Nat.zero_le _, rfl, rfl, rfl, fun j hj => absurd hj (by omega), HS.out.1, HS.out.2⟩
  case round =>
    clear HS
    obtain ⟨k, hk, rfl, rfl, rfl, hz, hO, hL⟩ := hrel
    by_cases hlt : k < l.length
    · obtain ⟨ga, oa, rfl, hcell⟩ := HLp.out k hlt
      obtain ⟨hcl, hok⟩ := hcell wr hO
      have HU := Lib.hid (show ruP c l k = (askP c (stP c l k) (l.getD k ev0) (decide (k = 0))).1 from rfl)
      have HSn := Lib.hid (show stP c l (k + 1) = (askP c (stP c l k) (l.getD k ev0) (decide (k = 0))).2 from rfl)
      have HFb := Lib.hid (st_fails c l k)
      have HDl := Lib.hid (HO.out k hlt)
      generalize l.getD k ev0 = e at *
      obtain ⟨kind, time, ip, till, why, len, a, cap, data⟩ := e
      have q0 : wr.cell? ⟨ga, oa + k * 7, none⟩ = some (.int .i64 kind) := hcl 0 (by omega)
      have q1 : wr.cell? ⟨ga, oa + k * 7 + 1, none⟩ = some (.int .i64 time) := hcl 1 (by omega)
      have q2 : wr.cell? ⟨ga, oa + k * 7 + 2, none⟩ = some (.int .u32 ip) := hcl 2 (by omega)
      have q3 : wr.cell? ⟨ga, oa + k * 7 + 3, none⟩ = some (.int .i64 till) := hcl 3 (by omega)
      have q4 : wr.cell? ⟨ga, oa + k * 7 + 4, none⟩ = some (.int .i64 why) := hcl 4 (by omega)
      have q5 : wr.cell? ⟨ga, oa + k * 7 + 5, none⟩ = some (.int .i64 len) := hcl 5 (by omega)
      have q6 : wr.cell? ⟨ga, oa + k * 7 + 6, none⟩ = some (.slice a data.length cap) := hcl 6 (by omega)
      have HZ := Lib.hid hz
      have HR := Lib.hid (And.intro hO (And.intro hL hok))
      have hOs := hO.size
      clear hcl hcell HLp hz hO hL hok
      go_upto_region 6 with fail
      obtain ⟨b, hb⟩ : ∃ b, wr.heap.size = b := ⟨_, rfl⟩
      refine wp_gen (fun W => Only Nil w W ∧ LkAt W g c (stP c l k) ∧ Ev.ok W ⟨kind, time, ip, till, why, len, a, cap, data⟩ ∧ Blk W b 48 [.int .i64 kind, .int .i64 time, .int .u32 ip, .int .i64 till, .int .i64 why, .int .i64 len, .slice a data.length cap])
        ⟨HR.out.1.alloc _, HR.out.2.1.only ((Only.refl Nil _).alloc _) id, HR.out.2.2.off ((Only.refl Nil _).alloc _) (fun _ _ _ => id), hb ▸ Blk.new wr _ _⟩ ?_
      rw [hb]
      clear HR hb hOs q0 q1 q2 q3 q4 q5 q6
      intro w4 h4
      have q0 : w4.cell? ⟨b, 0, none⟩ = some (.int .i64 kind) := h4.2.2.2.cell 0
      have q1 : w4.cell? ⟨b, 1, none⟩ = some (.int .i64 time) := h4.2.2.2.cell 1
      have q2 : w4.cell? ⟨b, 2, none⟩ = some (.int .u32 ip) := h4.2.2.2.cell 2
      have q3 : w4.cell? ⟨b, 3, none⟩ = some (.int .i64 till) := h4.2.2.2.cell 3
      have q4 : w4.cell? ⟨b, 4, none⟩ = some (.int .i64 why) := h4.2.2.2.cell 4
      have q5 : w4.cell? ⟨b, 5, none⟩ = some (.int .i64 len) := h4.2.2.2.cell 5
      have q6 : w4.cell? ⟨b, 6, none⟩ = some (.slice a data.length cap) := h4.2.2.2.cell 6
      have H4 := Lib.hid h4
      clear h4
      have hk0 : ((k : Int) == 0) = decide (k = 0) := by
        by_cases hk0 : k = 0
        · subst hk0; rfl
        · rw [decide_eq_false hk0]
          simp [hk0]
      have hcall := ask_any g c (stP c l k) ⟨kind, time, ip, till, why, len, a, cap, data⟩ (decide (k = 0)) w4 H4.out.2.1 H4.out.2.2.1 (fun h0 e => by have := HDl.out h0 _ e; have := HG.out; omega) HFb.out.1 (by have := HFb.out.2; omega)
      obtain ⟨f, hf⟩ : ∃ f, decide (k = 0) = f := ⟨_, rfl⟩
      rw [hf] at hk0 hcall HU HSn
      clear hf HDl HFb
      go_upto_region 7 with (go_at_call 28; refine hcall.mono ?_; rintro r w5 ⟨rfl, hk5, ho5⟩)
      rw [← HU.out]
      rw [← HSn.out] at hk5
      have HK := Lib.hid (And.intro (H4.out.1.trans ho5 (fun i hi => .inr (by rw [show i = g from hi]; exact HG.out))) hk5)
      clear hk5 ho5 H4 q0 q1 q2 q3 q4 q5 q6 hcall HSn HU hk0
      obtain ⟨x, hx⟩ : ∃ x, ruP c l k = x := ⟨_, rfl⟩
      rw [hx]
      have HX := Lib.hid hx
      clear hx
      by_cases h0 : x = 0
      · subst h0
        go_wp2
        go_roundw
        case rel => exact ⟨k + 1, by omega, by go_num, rfl, rfl, fun j hj => by by_cases hjk : j < k; exact HZ.out j hjk; rw [show j = k by omega]; exact HX.out, HK.out.1, HK.out.2⟩
        case measure => simp [intOf]; omega
      · have h0b : (x == 0) = false := by simp [h0]
        have hS := Lib.hid (show Says c l (k : Nat) x 270 from .inr ⟨k, hlt, HZ.out, by rw [HX.out]; exact h0, rfl, HX.out.symm, rfl⟩)
        have hneg : ¬ (k : Int) < 0 := by omega
        clear h0 HZ HX
        go_wp2
        (try rw [Exit.noGoto_ret])
        go_ret3
        exact ⟨⟨_, _, _, rfl, hS.out⟩, HK.out.1⟩
    · have hS := Lib.hid (show Says c l (-1) 0 0 from .inl ⟨fun j hj => hz j (by omega), rfl, rfl, rfl⟩)
      have hOO := Lib.hid hO
      clear hz hO hL
      go_wp2
      (try rw [Exit.noGoto_ret])
      go_ret3
      exact ⟨⟨_, _, _, rfl, hS.out⟩, hOO.out⟩
end Go.Proofs.Ythoaeolohnalnaa
