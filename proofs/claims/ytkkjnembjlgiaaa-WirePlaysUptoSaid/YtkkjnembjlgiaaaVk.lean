/-
  WirePlays: a call at both (step): Fates.
-/
import Derived.Test.YtkkjnembjlgiaaaVj
import Derived.Laws.CopyRow
namespace Go.Proofs.Ytkkjnembjlgiaaa
set_option maxRecDepth 100000
open Go.RowKit

theorem flatF_get : ∀ (l : List Ft) (j i : Nat), j < l.length → i < 3 → (flatF l)[j * 3 + i]? = (l.getD j ft0).cells[i]?
  | [], j, _, hj, _ => absurd hj (Nat.not_lt_zero j)
  | x :: r, 0, i, _, hi => by
    show (x.cells ++ flatF r)[0 * 3 + i]? = _
    rw [Nat.zero_mul, Nat.zero_add, List.getElem?_append_left (by exact hi)]
    rfl
  | x :: r, j + 1, i, hj, hi => by
    show (x.cells ++ flatF r)[(j + 1) * 3 + i]? = _
    have hx : x.cells.length = 3 := rfl
    rw [List.getElem?_append_right (by rw [hx]; omega), hx, show (j + 1) * 3 + i - 3 = j * 3 + i by omega, flatF_get r j i (by simpa using hj) hi]
    simp [List.getD]
theorem flatF_set : ∀ (l : List Ft) (j : Nat) (x : Ft), j < l.length → flatF (l.set j x) = (((flatF l).set (j * 3) (.bool x.lost)).set (j * 3 + 1) (.int .i64 x.delay)).set (j * 3 + 2) (.int .i64 x.twin)
  | [], j, _, hj => absurd hj (Nat.not_lt_zero j)
  | y :: r, 0, x, _ => rfl
  | y :: r, j + 1, x, hj => by
    show y.cells ++ flatF (r.set j x) = _
    have hy : y.cells.length = 3 := rfl
    show _ = (((y.cells ++ flatF r).set ((j + 1) * 3) _).set ((j + 1) * 3 + 1) _).set ((j + 1) * 3 + 2) _
    rw [List.set_append_right _ _ (by rw [hy]; omega), List.set_append_right _ _ (by rw [hy]; omega), List.set_append_right _ _ (by rw [hy]; omega), hy, flatF_set r j x (by simpa using hj)]
    rw [show (j + 1) * 3 - 3 = j * 3 by omega, show (j + 1) * 3 + 1 - 3 = j * 3 + 1 by omega, show (j + 1) * 3 + 2 - 3 = j * 3 + 2 by omega]
theorem made_fates (n : Nat) : madeCells #[.bool false, .int .i64 0, .int .i64 0] (n * 3) = (flatF (List.replicate n ft0)).toArray := by
  apply Array.ext'
  apply List.ext_getElem?
  intro k
  by_cases hk : k < n * 3
  · have h1 : (madeCells #[.bool false, .int .i64 0, .int .i64 0] (n * 3)).toList[k]? = some ((#[Value.bool false, .int .i64 0, .int .i64 0] : Array Value)[k % 3]!) := by
      unfold madeCells
      simp [hk]
    rw [h1]
    have h2 := flatF_get (List.replicate n ft0) (k / 3) (k % 3) (by rw [List.length_replicate]; omega) (by omega)
    rw [show k / 3 * 3 + k % 3 = k by omega] at h2
    rw [List.toList_toArray, h2]
    have h3 : (List.replicate n ft0).getD (k / 3) ft0 = ft0 := by
      simp [List.getD, List.getElem?_replicate]
      split <;> rfl
    rw [h3]
    have h4 : k % 3 = 0 ∨ k % 3 = 1 ∨ k % 3 = 2 := by omega
    rcases h4 with h4 | h4 | h4 <;> rw [h4] <;> rfl
  · rw [List.getElem?_eq_none (by unfold madeCells; simp; omega), List.getElem?_eq_none (by simp [flatF_len]; omega)]
section
variable {B : Nat} {W W' W1 W2 W3 W4 : World} {c c' : Nat → Nat} {F G T : Nat → Prop} {i j w x kb bk n g : Nat} {v : Value} {s r s' r' : WS} {ks ks' : List Ke} {l : List Ft}
theorem run_copy_fates (ty : TypeId) (hv : RF W v l) {cur : List Value} (hb : Blk W g 46 cur) (hl : cur.length = (l.length + 1) * 3) :
    ∃ W', (Builtin.copy_ #[40, 40] ty #[.slice (some ⟨g, 0, none⟩) (l.length + 1) (l.length + 1), v]).run Try.prog W = .ok (.int .i64 (l.length : Int)) W' ∧ Blk W' g 46 (flatF l ++ cur.drop (l.length * 3)) ∧ Only (One g) W W' := by
  obtain ⟨ib, hib, hbz, hbs, hbb⟩ := info_parts info_fate
  have hu := Try.underlying40
  obtain ⟨A, c, rfl, hc, hr⟩ := hv
  cases A with
  | none =>
    have h0 : l = [] := List.eq_nil_of_length_eq_zero (by
      rcases Nat.eq_zero_or_pos l.length with h | h
      · exact h
      · obtain ⟨g, o, e, _⟩ := hr h
        cases e)
    subst h0
    refine ⟨W, ?_, by simpa [flatF] using hb, Only.refl _ _⟩
    simp [Builtin.copy_, run_underlying hu, Builtin.lenOf, Builtin.firstCells, sizeOf, typeInfo, hib, storeCells, goInt]
  | some a =>
    have hsrc : ∀ j u, (flatF l)[j]? = some u → W.cell? (a.add j) = some u := by
      intro j u hj
      have hjl : j < l.length * 3 := by have := (List.getElem?_eq_some_iff.1 hj).1; rwa [flatF_len] at this
      obtain ⟨g, o, e1, hc1⟩ := hr (by omega)
      obtain rfl := Option.some.inj e1
      rw [Addr.add_mid]
      exact hc1 j u hj
    have hld := run_loadCells_list (P := Try.prog) W a (flatF l) hsrc
    have hst := run_storeCells_at Try.prog g 0 46 (flatF l) 0 cur.toArray W hb (by rw [flatF_len]; simp; omega) (flatF_one l)
    rw [flatF_len] at hld
    have hmin : Nat.min l.length (l.length + 1) = l.length := Nat.min_eq_left (Nat.le_succ _)
    refine ⟨W.setRow g (flatF l ++ cur.drop (l.length * 3)).toArray, ?_, hb.row _, (Only.refl _ _).setRow (.inl (One.self g)) _⟩
    simp [flatF_len] at hst
    simp [Builtin.copy_, run_underlying hu, Builtin.lenOf, Builtin.firstCells, sizeOf, typeInfo, hib, hbs, hmin, hld, hst, goInt]
theorem wpList_copy_run {P : Program} {ops : Array Oper} {rest : List Oper} {o : Oper} {a : Act} {Q : Exit → Act → World → Prop} (hgd : o.guard = none) (d x : Operand) (t u : TypeId)
    (ho : o.op = .call { callee := .builtin .copy, args := #[d, x], argTypes := #[t, u] }) (vs vx : Value) (hs : a.eval d = vs) (hx : a.eval x = vx) {v' : Value}
    (hrun : (Builtin.copy_ #[t, u] o.type #[vs, vx]).run P W = .ok v' W') (h : wpList P ops Q rest (a.put o.dst v') W') : wpList P ops Q (o :: rest) a W :=
  wpList_plain hgd fun _ hK => by
    unfold Oper.wp execOp
    simp only [ho, resolve, invoke, builtin, Sem.run_bind, Sem.run_pure, Result.andThen_ok, List.map_toArray, List.map_cons, List.map_nil, hs, hx, hrun]
    exact hK _ _ h
theorem slice_fates {n m cap : Nat} (hk : n ≤ cap) (W : World) : (Instr.slice 40 (.slice (some ⟨g, 0, none⟩) m cap) none (some (.int .i64 (n : Int))) none).run Try.prog W = .ok (.slice (some ⟨g, 0, none⟩) n cap) W := by
  obtain ⟨ib, hib, _, hbs, _⟩ := info_parts info_fate
  have hel : Try.prog.elem 40 = 46 := by simp [Program.elem, Try.underlying40]
  rw [run_slice_h W 40 (some ⟨g, 0, none⟩) m cap (by rw [hel]; exact Try.underlying40) .i64 n (by omega) (by omega), hel]
  simp [sizeOf, typeInfo, hib, hbs, Result.andThen, sliced, Addr.add]
def ft1 : Ft := ⟨true, 0, 0⟩
/-- The caller's row, written over as far as k. -/
def over (l : List Ft) (k : Nat) : List Ft := List.replicate k ft1 ++ (l ++ [ft0]).drop k
theorem over_length {k : Nat} (h : k ≤ l.length) : (over l k).length = l.length + 1 := by
  unfold over
  simp
  omega
theorem over_get {k : Nat} : (over l k).getD k ft0 = (l ++ [ft0]).getD k ft0 := by
  unfold over
  simp [List.getD, List.getElem?_append_right]
theorem over_set {k : Nat} (h : k < l.length) : (over l k).set k ft1 = over l (k + 1) := by
  unfold over
  rw [List.set_append_right _ _ (by simp), List.length_replicate, Nat.sub_self, List.replicate_succ', List.append_assoc]
  congr 1
  rw [List.drop_eq_getElem_cons (show k < (l ++ [ft0]).length by simp; omega)]
  rfl
theorem Blk.over {k : Nat} (h : Blk W g 46 (flatF (over l k))) (hk : k < l.length) : Blk (((W.setCell ⟨g, k * 3, none⟩ (.bool true)).setCell ⟨g, k * 3 + 1, none⟩ (.int .i64 0)).setCell ⟨g, k * 3 + 2, none⟩ (.int .i64 0)) g 46 (flatF (Go.Proofs.Ytkkjnembjlgiaaa.over l (k + 1))) := by
  rw [← over_set hk, flatF_set _ k ft1 (by rw [over_length (Nat.le_of_lt hk)]; omega)]
  exact ((h.set (k * 3) (.bool true)).set (k * 3 + 1) (.int .i64 0)).set (k * 3 + 2) (.int .i64 0)
set_option maxHeartbeats 6400000 in
theorem step_fates (H : Half B W c i j w x s r n) (K : Kept B W c kb bk ks) (hk : KsOk ks) (hij : IJ i j) (hn : n ≤ 3000000) (t : Int) (y : Value) (fa : Option Addr) (fc : Nat) (l : List Ft) (hb : RF W (.slice fa l.length fc) l) (hl : l.length ≤ 1048576) (hB : 0 < l.length → ∀ k, blkOf (.slice fa l.length fc) = some k → k < B) :
    Calls Try.prog 10 #[.pointer (some ⟨kb, 0, none⟩), .pointer (some ⟨w, 0, none⟩), .pointer (some ⟨x, 0, none⟩), .agg #[.int .i64 3, .int .i64 t, y, .slice fa l.length fc]] W fun e W' => e = .returned (.bool true) ∧ After B W c i j w x kb bk n ks W' := by
  obtain ⟨b, hbz⟩ : ∃ b, W.heap.size = b := ⟨_, rfl⟩
  obtain ⟨F, hF, hFc⟩ := H.wire
  obtain ⟨G, hG, hGc⟩ := H.vire
  obtain ⟨ifx, hif, hfz, hfs, hfb⟩ := info_parts info_fate
  have HZ := Lib.hid hbz
  have HA := Lib.hid (fun (W2 W3 W4 W' : World) (s' r' : WS) (T : Nat → Prop) => After.both (W2 := W2) (W3 := W3) (W4 := W4) (W' := W') (s' := s') (r' := r') (T := T) H K hk hij hF hFc hG hGc)
  have HIJ := Lib.hid hij
  have HFC := Lib.hid hFc
  have HGC := Lib.hid hGc
  have HFR := Lib.hid H.frs
  have HF := Lib.hid hF
  have HG := Lib.hid hG
  have HS := Lib.hid H.sane
  have HR := Lib.hid H.rel
  have HB := Lib.hid hB
  have HRB := Lib.hid hb
  have HX := Lib.hid (show Blk (W.alloc (.cells #[.int .i64 3, .int .i64 t, y, .slice fa l.length fc] 42)) b 42 [.int .i64 3, .int .i64 t, y, .slice fa l.length fc] from hbz ▸ Blk.new W _ _)
  have HFb := Lib.hid (show ∀ k, F k ∨ G k → B ≤ k ∧ k < b from fun k hk => by rw [← hbz]; exact hk.elim (hF.own k) (hG.own k))
  clear H K hk hF hFc hG hGc hb hB hij
  go_enter Try.func10, Try.ntmps10
  go_upto_region 1 with fail
  (try rw [hbz])
  refine wp_gen (fun W1 => Only Nil W W1 ∧ Blk W1 b 42 [.int .i64 3, .int .i64 t, y, .slice fa l.length fc]) ⟨(Only.refl _ _).alloc _, HX.out⟩ ?_
  clear HX hbz
  rintro W1 ⟨hO1, hX1⟩
  have HO1 := Lib.hid hO1
  have HX1 := Lib.hid hX1
  have x0 : W1.cell? ⟨b, 0, none⟩ = some (.int .i64 3) := hX1.cell 0
  have x3 : W1.cell? ⟨b, 3, none⟩ = some (.slice fa l.length fc) := hX1.cell 3
  obtain ⟨g, hg⟩ : ∃ b, W1.heap.size = b := ⟨_, rfl⟩
  have hmk : (Instr.makeSlice 40 (.int .i64 ((l.length : Int) + 1)) (.int .i64 ((l.length : Int) + 1))).run Try.prog W1 =
      .ok (.slice (some ⟨g, 0, none⟩) (l.length + 1) (l.length + 1)) (W1.alloc (.cells (flatF (List.replicate (l.length + 1) ft0)).toArray 46)) := by
    have h := run_make (P := Try.prog) W1 40 46 ifx _ Try.underlying40 hif hfz .i64 .i64 ((l.length : Int) + 1) ((l.length : Int) + 1) (by omega) (Int.le_refl _) (by rw [hfb]; omega) (by omega)
    have e : ((l.length : Int) + 1).toNat = l.length + 1 := by omega
    rw [e, hfs, hg] at h
    rw [← made_fates]
    exact h
  have HG1 := Lib.hid hg
  have hbg : b < g := by rw [← hg]; exact hX1.lt
  obtain ⟨W2, hrun, hB2, hO2⟩ := run_copy_fates (W := W1.alloc (.cells (flatF (List.replicate (l.length + 1) ft0)).toArray 46)) (g := g) (l := l) 3 ((HRB.out.only hO1 fun _ _ _ e => e).only ((Only.refl Nil W1).alloc _) fun _ _ _ e => e) (hg ▸ Blk.new W1 _ _) (by rw [flatF_len, List.length_replicate])
  have hO12 : Only Nil W W2 := ((hO1.alloc _).trans hO2 fun k e => .inr (by rw [show k = g from e, ← hg]; exact hO1.size))
  have hB3 : Blk W2 g 46 (flatF (over l 0)) := by
    have e : flatF l ++ (flatF (List.replicate (l.length + 1) ft0)).drop (l.length * 3) = flatF (over l 0) := by
      have e1 : flatF (List.replicate (l.length + 1) ft0) = flatF (List.replicate l.length ft0) ++ flatF [ft0] := by rw [List.replicate_succ', flatF_append]
      have e2 : (flatF (List.replicate l.length ft0)).length = l.length * 3 := by rw [flatF_len, List.length_replicate]
      rw [e1, ← e2, List.drop_left]
      unfold over
      rw [List.drop_zero, flatF_append, flatF_append]
      rfl
    rw [← e]
    exact hB2
  have hX2 : Blk W2 b 42 [.int .i64 3, .int .i64 t, y, .slice fa l.length fc] := hO2.blk (hX1.alloc _) (fun e => by have : b = g := e; omega)
  have x3a : (W1.alloc (.cells (flatF (List.replicate (l.length + 1) ft0)).toArray 46)).cell? ⟨b, 3, none⟩ = some (.slice fa l.length fc) := (hX1.alloc _).cell 3
  have x32 : W2.cell? ⟨b, 3, none⟩ = some (.slice fa l.length fc) := hX2.cell 3
  have hgl : g < W2.heap.size := hB3.lt
  have HX2 := Lib.hid hX2
  have HB3 := Lib.hid hB3
  have HO2 := Lib.hid hO12
  have hsl := slice_fates (g := g) (n := l.length) (m := l.length + 1) (cap := l.length + 1) (Nat.le_succ _) W2
  have HFS := Lib.hid (fates_any (HF.out.only hO12 fun _ _ e => e) l (.slice (some ⟨g, 0, none⟩) l.length (l.length + 1)) ⟨_, _, rfl, Nat.le_succ _, fun _ => ⟨g, 0, rfl, fun j u hj => by
    rw [Nat.zero_add, hB3.cell, ← hj]
    have e : over l 0 = l ++ [ft0] := by unfold over; simp
    rw [e, flatF_append, List.getElem?_append_left (List.getElem?_eq_some_iff.1 hj).1]⟩⟩ (by have := HS.out.fates; omega))
  have HRUN := Lib.hid hrun
  clear hO1 hX1 hg hB2 hO2 hO12 hB3 hX2 hrun
  go_upto_region 17 with (first
    | ((with_reducible show wpList _ _ _ (Oper.mk _ (.call { callee := .builtin .copy, args := _, argTypes := _ }) _ _ _ _ :: _) _ _); refine wpList_copy_run rfl (.tmp 67) (.tmp 69) 40 40 rfl _ _ rfl rfl HRUN.out ?_)
    | (go_at_call 12; refine HFS.out.mono ?_; rintro e W3 ⟨rfl, hd3⟩; have y33 : W3.cell? ⟨b, 3, none⟩ = some (.slice fa l.length fc) := (hd3.only.blk HX2.out (fun e => by have := HFb.out b (.inl e); omega)).cell 3))
  have HD3 := Lib.hid hd3
  have hX3 := hd3.only.blk HX2.out (fun e => by have := HFb.out b (.inl e); omega)
  have HX3 := Lib.hid hX3
  have HRB3 := Lib.hid ((HRB.out.only HO2.out fun _ _ _ e => e).only hd3.only fun h0 k hk e => by
      have h1 := HB.out h0 k hk
      have h2 := (HFb.out k (.inl e)).1
      omega)
  have HV3 := Lib.hid ((HG.out.nil HO2.out).only hd3.only (fun k hk e => by
      have h1 := HGC.out k hk
      have h2 := HFC.out k e
      have h3 := HIJ.out.ne
      omega) fun k hk e => by
      have h1 := HFR.out k hk
      have h2 := HFC.out k e
      have h3 := HIJ.out.i5
      omega)
  have HRF := Lib.hid (rfates_any HV3.out l HRB3.out (fun h0 k hk => by
      have h1 := HB.out h0 k hk
      refine ⟨fun e => ?_, ?_⟩
      · have h2 := (HFb.out k (.inr e)).1
        omega
      · have := HV3.out.base
        omega) (by have := HS.out.fates; have := congrArg List.length HR.out.fates; omega))
  have HB33 := Lib.hid (hd3.only.blk HB3.out (fun e => by have := HFb.out g (.inl e); omega))
  clear hd3 hX3 x0 x3 x3a x32 hsl hmk HFS
  go_upto_region 18 with (go_at_call 24; refine HRF.out.mono ?_; rintro e W4 ⟨rfl, hd4⟩; have y43 : W4.cell? ⟨b, 3, none⟩ = some (.slice fa l.length fc) := (hd4.only.blk HX3.out (fun e => by have := HFb.out b (.inr e); omega)).cell 3)
  have HD4 := Lib.hid hd4
  have hB4 := hd4.only.blk HB33.out (fun e => by have := HFb.out g (.inr e); omega)
  have HX4 := Lib.hid (hd4.only.blk HX3.out (fun e => by have := HFb.out b (.inr e); omega))
  have HB4 := Lib.hid hB4
  have HRB4 := Lib.hid (HRB3.out.only hd4.only fun h0 k hk e => by
      have h1 := HB.out h0 k hk
      have h2 := (HFb.out k (.inr e)).1
      omega)
  have hend : ∀ i, i < 3 → W4.cell? ⟨g, l.length * 3 + i, none⟩ = ft0.cells[i]? := fun i hi => by
    rw [hB4.cell, flatF_get _ _ _ (by rw [over_length (Nat.zero_le _)]; omega) hi]
    congr 1
    unfold over
    simp [List.getD]
  have p0 : W4.cell? ⟨g, l.length * 3, none⟩ = some (.bool false) := hend 0 (by omega)
  have p1 : W4.cell? ⟨g, l.length * 3 + 1, none⟩ = some (.int .i64 0) := hend 1 (by omega)
  have p2 : W4.cell? ⟨g, l.length * 3 + 2, none⟩ = some (.int .i64 0) := hend 2 (by omega)
  clear hd4 hB4 hend y33 HRF
  have g1 : (l.length : Int) < (l.length : Int) + 1 := by omega
  go_upto_region 19 with fail
  clear p0 p1 p2 g1 y43
  have hBb : B ≤ b := by rw [← HZ.out]; exact HF.out.base
  go_wp2
  go_loopw [14, 15] (fun gv iv W5 => ∃ k : Nat, k ≤ l.length ∧ iv = .int .i64 k ∧ gv = .bool true ∧ Only (One g) W4 W5 ∧ Blk W5 g 46 (flatF (over l k))) (fun _ iv _ => l.length - (intOf iv).toNat)
  case atStart => exact ⟨0, Nat.zero_le _, rfl, rfl, Only.refl _ _, HB4.out⟩
  case round =>
    obtain ⟨k, hk, rfl, rfl, ho5, hB5⟩ := hrel
    have y53 : wr.cell? ⟨b, 3, none⟩ = some (.slice fa l.length fc) := (ho5.blk HX4.out (fun e => by have : b = g := e; omega)).cell 3
    have HO5 := Lib.hid ho5
    by_cases hkl : k < l.length
    · have g1 : (k : Int) < (l.length : Int) := by omega
      have g2 : (k : Int) < (l.length : Int) + 1 := by omega
      have hrf := HRB4.out.only ho5 fun h0 k' hk' e => by
        have h1 := HB.out h0 k' hk'
        have : k' = g := e
        omega
      obtain ⟨gu, ou, rfl, q0, q1, q2⟩ := hrf.at' hkl
      have hcell : ∀ i, i < 3 → wr.cell? ⟨g, k * 3 + i, none⟩ = (l.getD k ft0).cells[i]? := fun i hi => by
        rw [hB5.cell, flatF_get _ _ _ (by rw [over_length hk]; omega) hi, over_get]
        congr 2
        simp [List.getD, List.getElem?_append_left hkl]
      obtain ⟨f, hf⟩ : ∃ f, l.getD k ft0 = f := ⟨_, rfl⟩
      rw [hf] at q0 q1 q2 hcell
      have p0 : wr.cell? ⟨g, k * 3, none⟩ = some (.bool f.lost) := hcell 0 (by omega)
      have p1 : wr.cell? ⟨g, k * 3 + 1, none⟩ = some (.int .i64 f.delay) := hcell 1 (by omega)
      have p2 : wr.cell? ⟨g, k * 3 + 2, none⟩ = some (.int .i64 f.twin) := hcell 2 (by omega)
      have hfree := hB5.free
      have HW := Lib.hid hB5
      clear ho5 hB5 hrf hcell hf
      go_upto_region 22 with fail
      go_quiet (fail)
      have HN := Lib.hid (show Only (One g) W4 ((((wr.drewN nq).setCell ⟨g, k * 3, none⟩ (.bool true)).setCell ⟨g, k * 3 + 1, none⟩ (.int .i64 0)).setCell ⟨g, k * 3 + 2, none⟩ (.int .i64 0)) from
        (((HO5.out.drewN nq).setCell (p := ⟨g, k * 3, none⟩) (.inl (One.self g)) _).setCell (p := ⟨g, k * 3 + 1, none⟩) (.inl (One.self g)) _).setCell (p := ⟨g, k * 3 + 2, none⟩) (.inl (One.self g)) _)
      have HNB := Lib.hid (Blk.over (HW.out.drewN nq) hkl)
      go_wp2
      go_roundw
      case rel => exact ⟨k + 1, by omega, by go_num, rfl, HN.out, HNB.out⟩
      case measure => simp only [intOf]; omega
    · have hkl2 : k = l.length := by omega
      subst hkl2
      have g1 : ¬ (l.length : Int) < (l.length : Int) := by omega
      clear ho5 hB5
      go_wp2
      go_ret
      exact ⟨rfl, HA.out _ _ _ _ _ _ _ HO2.out HD3.out HD4.out (HR.out.fated l) (HS.out.fated hl) HO5.out (fun k e => by rw [show k = g from e, HZ.out]; exact ⟨by omega, hgl⟩)⟩
end
end Go.Proofs.Ytkkjnembjlgiaaa
