/-
  The document's wire (slipwayref22): Fates, lay.
-/
import Derived.Test.YtkkjnembjlgiaaaVa
import Derived.Test.YtkkjnembjlgiaaaRowN
namespace Go.Proofs.Ytkkjnembjlgiaaa
set_option maxRecDepth 100000
open Go.RowKit

theorem step_append_run {P : Program} {w : World} {ops : Array Oper} {o : Oper} {a : Act} {K : Act → World → Prop} {Q : Exit → Act → World → Prop} {E : Prop} (hgd : o.guard = none) (s x : Operand) (t u : TypeId)
    (ho : o.op = .call { callee := .builtin .append, args := #[s, x], argTypes := #[t, u] }) (vs vx : Value) (hs : a.eval s = vs) (hx : a.eval x = vx) {v' : Value} {w' : World}
    (hrun : (Builtin.append_ #[t, u] o.type #[vs, vx]).run P w = .ok v' w') (h : K (a.put o.dst v') w') : if Region.wanted o (yielded ops a.tmps) = true then Oper.wp P o a w K Q else E := by
  rw [if_pos (by simp [Region.wanted, hgd])]
  unfold Oper.wp execOp
  simp only [ho, resolve, invoke, builtin, Sem.run_bind, Sem.run_pure, Result.andThen_ok, List.map_toArray, List.map_cons, List.map_nil, hs, hx, hrun]
  exact h
section
variable {B : Nat} {w w' W w1 w2 : World} {F S : Nat → Prop} {b : Nat} {v vw vf v' : Value} {s s' s2 : WS} {l : List Wy}
theorem DidV.then' (h1 : DidV B w F b s s' w1) (h2 : DidV B w1 (fun k => F k ∨ w.heap.size ≤ k) b s' s2 w2) : DidV B w F b s s2 w2 :=
  DidV.from' h1.only (fun _ h => h) h1.frs h2
/-- One fate more. -/
theorem VireAt.fated (hA : VireAt B w F b vw vf s) (hI : IsVire B w F b s) {l : List Ft} (h0 : Only Nil w W) (h1 : Only (fun k => vf.ownBlock = some k) W w1) (hf : OwF B w1 v' (s.fates ++ l)) (hn : ∀ k, v'.ownBlock = some k → vf.ownBlock = some k ∨ W.heap.size ≤ k) :
    DidV B w F b s { s with fates := s.fates ++ l } (w1.setCell ⟨b, 2, none⟩ v') ∧ w1.cell? ⟨b, 2, none⟩ = some vf ∧ w1.frozen? ⟨b, 2, none⟩ = false := by
  have hA0 := hA.nil h0
  have hbv : vf.ownBlock ≠ some b := fate_far hA0.fates hA0.blk (by decide)
  have hb1 := h1.blk hA0.blk hbv
  have ho : Only (One b) w1 (w1.setCell ⟨b, 2, none⟩ v') := (Only.refl _ _).setCell (p := ⟨b, 2, none⟩) (.inl (One.self b)) v'
  have hbyte : ∀ e ∈ s.ways, OwnB B (w1.setCell ⟨b, 2, none⟩ v') e.d e.bs := fun e he => by
    have he1 : OwnB B w1 e.d e.bs := own_only (hA0.each e he) h1 fun k hk e' => by
      rcases hA0.fates with ⟨rfl, _⟩ | ⟨g, o, cap, cs, rfl, _, hg, _⟩
      · cases e'
      · obtain rfl : g = k := Option.some.inj e'
        exact ownN_far (hA0.each e he) hg (by decide) hk
    exact own_only he1 ho fun k hk e' => ownN_far he1 hb1 (by decide) (by rw [hk, show k = b from e'])
  have hways : OwV B w1 vw s.ways := ownN_only hA0.ways h1 fun k hk e => by
    rcases hA0.fates with ⟨rfl, _⟩ | ⟨g, o, cap, cs, rfl, _, hg, _⟩
    · cases e
    · obtain rfl : g = k := Option.some.inj e
      exact ownN_far hA0.ways hg (by decide) hk
  have hlt : ∀ k, v'.ownBlock = some k → k < w1.heap.size := fun k hk => by
    rcases hf with ⟨rfl, _⟩ | ⟨g, o, cap, cs, rfl, _, hg, _⟩
    · cases hk
    · obtain rfl : g = k := Option.some.inj hk
      exact hg.lt
  have hO : Only F w (w1.setCell ⟨b, 2, none⟩ v') := (((h0.mono (T := F) fun _ _ e => e.elim).trans h1 fun k hk => .inl (hA.foot.2.2 k hk))).setCell (p := ⟨b, 2, none⟩) (.inl hA.foot.1) _
  refine ⟨⟨⟨fun k => F k ∨ (w.heap.size ≤ k ∧ k < (w1.setCell ⟨b, 2, none⟩ v').heap.size), ⟨⟨vw, v', ⟨hb1.set 2 v', ?_, ?_, hbyte, ⟨.inl hA.foot.1, fun k hk => .inl (hA.foot.2.1 k hk), fun k hk => ?_⟩⟩⟩, fun k hk => ?_, Nat.le_trans hI.base hO.size⟩, fun k hk => hk.imp id fun h => h.1⟩, hO, fun _ h => .inl h⟩, ?_, hb1.free 2⟩
  · exact ownN_only hways ho fun k hk e => ownN_far hways hb1 (by decide) (by rw [hk, show k = b from e])
  · exact hf.only ho fun k hk e => fate_far hf hb1 (by decide) (by rw [hk, show k = b from e])
  · rcases hn k hk with h | h
    · exact .inl (hA.foot.2.2 k h)
    · exact .inr ⟨Nat.le_trans h0.size h, Nat.lt_of_lt_of_le (hlt k hk) ho.size⟩
  · rcases hk with hk | hk
    · exact ⟨(hI.own k hk).1, Nat.lt_of_lt_of_le (hI.own k hk).2 hO.size⟩
    · exact ⟨Nat.le_trans hI.base hk.1, hk.2⟩
  · rw [hb1.cell, ← hA0.blk.cell]
    exact hA0.c2
theorem RF.at' {A : Option Addr} {n c : Nat} {l : List Ft} (h : RF w (.slice A n c) l) {j : Nat} (hj : j < l.length) : ∃ g o, A = some ⟨g, o, none⟩ ∧ w.cell? ⟨g, o + j * 3, none⟩ = some (.bool (l.getD j ft0).lost) ∧ w.cell? ⟨g, o + j * 3 + 1, none⟩ = some (.int .i64 (l.getD j ft0).delay) ∧ w.cell? ⟨g, o + j * 3 + 2, none⟩ = some (.int .i64 (l.getD j ft0).twin) := by
  obtain ⟨A', c', e, _, hr⟩ := h
  injection e with e1 e2 e3
  subst e1
  obtain ⟨g, o, e, hc⟩ := hr (by omega)
  have hg : ∀ (l : List Ft) (j i : Nat), j < l.length → i < 3 → (flatF l)[j * 3 + i]? = (l.getD j ft0).cells[i]? := by
    intro l
    induction l with
    | nil => exact fun j i hj _ => absurd hj (Nat.not_lt_zero j)
    | cons x r ih =>
      intro j i hj hi
      have hx : x.cells.length = 3 := rfl
      show (x.cells ++ flatF r)[j * 3 + i]? = _
      cases j with
      | zero =>
        rw [Nat.zero_mul, Nat.zero_add, List.getElem?_append_left (by exact hi)]
        rfl
      | succ j =>
        rw [List.getElem?_append_right (by rw [hx]; omega), hx, show (j + 1) * 3 + i - 3 = j * 3 + i by omega, ih j i (by simpa using hj) hi]
        simp [List.getD]
  exact ⟨g, o, e, hc (j * 3 + 0) _ ((hg l j 0 hj (by omega)).trans rfl), hc (j * 3 + 1) _ ((hg l j 1 hj (by omega)).trans rfl), hc (j * 3 + 2) _ ((hg l j 2 hj (by omega)).trans rfl)⟩
theorem RF.only {l : List Ft} (h : RF w v l) (ho : Only S w w') (hS : 0 < l.length → ∀ k, blkOf v = some k → ¬ S k) : RF w' v l := by
  obtain ⟨A, c, rfl, hc, hr⟩ := h
  refine ⟨A, c, rfl, hc, fun h0 => ?_⟩
  obtain ⟨g, o, rfl, hat⟩ := hr h0
  exact ⟨g, o, rfl, fun j u hu => ho.cell (hat j u hu) (hS h0 g rfl)⟩
theorem RF_one {W : World} {g : Nat} {t : TypeId} {f : Ft} (h : Blk W g t f.cells) : RF W (.slice (some ⟨g, 0, none⟩) 1 1) [f] :=
  ⟨_, 1, rfl, Nat.le_refl _, fun _ => ⟨g, 0, rfl, fun j u hj => by
    rw [Nat.zero_add, h.cell]
    simpa [flatF] using hj⟩⟩
set_option maxHeartbeats 3200000 in
theorem rfates_any (h : IsVire B w F b s) (l : List Ft) (hv : RF w v l) (hd : 0 < l.length → ∀ k, blkOf v = some k → ¬ F k ∧ k < w.heap.size) (hn : s.fates.length + l.length ≤ 5864062014700) :
    Calls Try.prog 24 #[.pointer (some ⟨b, 0, none⟩), v] w fun e w' => e = .returned (.tuple #[]) ∧ DidV B w F b s { s with fates := s.fates ++ l } w' := by
  obtain ⟨Av, cv, rfl, _⟩ := id hv
  have HH := Lib.hid h
  have HV := Lib.hid hv
  have HD := Lib.hid hd
  clear h hv hd
  go_enter Try.func24, Try.ntmps24
  go_wp2
  go_loopw [4] (fun i W => ∃ k : Nat, k ≤ l.length ∧ i = .int .i64 k ∧ DidV B w F b s { s with fates := s.fates ++ l.take k } W) (fun i _ => l.length - (intOf i).toNat)
  case atStart => exact ⟨0, Nat.zero_le _, rfl, by
    have := DidV.nil HH.out (Only.refl Nil w)
    rwa [show ({ s with fates := s.fates ++ l.take 0 } : WS) = s by simp]⟩
  case round =>
    obtain ⟨k, hk, rfl, hd⟩ := hrel
    by_cases hkl : k < l.length
    · have g1 : (k : Int) < (l.length : Int) := by omega
      have hrf := HV.out.only hd.only fun h0 g hg hF => (HD.out h0 g hg).1 hF
      obtain ⟨gu, ou, rfl, q0, q1, q2⟩ := hrf.at' hkl
      obtain ⟨f, hfe⟩ : ∃ f, l.getD k ft0 = f := ⟨_, rfl⟩
      rw [hfe] at q0 q1 q2
      have p0 : wr.drew.cell? ⟨gu, ou + k * 3, none⟩ = _ := q0
      have p1 : wr.drew.cell? ⟨gu, ou + k * 3 + 1, none⟩ = _ := q1
      have p2 : wr.drew.cell? ⟨gu, ou + k * 3 + 2, none⟩ = _ := q2
      obtain ⟨s1, hs1⟩ : ∃ y, ({ s with fates := s.fates ++ l.take k } : WS) = y := ⟨_, rfl⟩
      have hs1l : s1.fates.length = s.fates.length + k := by rw [← hs1]; simp; omega
      have HS1 := Lib.hid (show ({ s1 with fates := s1.fates ++ [f] } : WS) = { s with fates := s.fates ++ l.take (k + 1) } by
        rw [← hs1, ← hfe, List.take_add_one, List.getD, List.getElem?_eq_getElem hkl]
        simp)
      rw [hs1] at hd
      obtain ⟨F1, hI1, hF1⟩ := hd.vire
      obtain ⟨vw1, vf1, hA1⟩ := hI1.at'
      obtain ⟨A1, k1, hvf⟩ := hA1.fates.slice
      have c2 := hA1.c2
      rw [hvf] at c2
      have c2d : wr.drew.cell? ⟨b, 2, none⟩ = some (.slice A1 s1.fates.length k1) := c2
      have c2a : (wr.alloc (.cells #[.bool f.lost, .int .i64 f.delay, .int .i64 f.twin] 46)).cell? ⟨b, 2, none⟩ = some (.slice A1 s1.fates.length k1) := by
        have := (hA1.blk.alloc (.cells #[.bool f.lost, .int .i64 f.delay, .int .i64 f.twin] 46)).cell 2
        rw [this]
        show some vf1 = _
        rw [hvf]
      have c2b : (wr.drew.alloc (.cells #[.bool f.lost, .int .i64 f.delay, .int .i64 f.twin] 46)).cell? ⟨b, 2, none⟩ = some (.slice A1 s1.fates.length k1) := c2a
      have HVF := Lib.hid hvf
      have HA1 := Lib.hid hA1
      have HI1 := Lib.hid hI1
      have HD1 := Lib.hid hd
      have HF1 := Lib.hid hF1
      have HR1 := Lib.hid (run_append_fates (vf := vf1) (B := B) 40 s1.fates [f] (.slice (some ⟨wr.heap.size, 0, none⟩) 1 1) (w := wr.alloc (.cells #[.bool f.lost, .int .i64 f.delay, .int .i64 f.twin] 46)) (hA1.nil ((Only.refl Nil wr).alloc _)).fates (RF_one (Blk.new wr 46 f.cells)) (by simp; omega) (by have := hI1.base; simp; omega))
      have HR2 := Lib.hid (run_append_fates (vf := vf1) (B := B) 40 s1.fates [f] (.slice (some ⟨wr.heap.size, 0, none⟩) 1 1) (w := wr.drew.alloc (.cells #[.bool f.lost, .int .i64 f.delay, .int .i64 f.twin] 46)) (hA1.nil ((Only.refl Nil wr).drew.alloc _)).fates (RF_one (Blk.new wr.drew 46 f.cells)) (by simp; omega) (by have := hI1.base; simp; omega))
      clear hd hA1 hI1 hrf hs1 hs1l hfe hvf hF1
      go_upto_region 3 with fail
      go_region_law ((obtain ⟨v9, w9, hrun9, hof9, ho9, hn9⟩ := HR2.out; obtain ⟨A9, q9, rfl⟩ := hof9.slice; refine step_append_run (by rfl) _ _ _ _ (by rfl) (.slice A1 s1.fates.length k1) _ (by rfl) (by rfl) (by rw [HVF.out] at hrun9; exact hrun9) ?_; have HG := Lib.hid (VireAt.fated HA1.out HI1.out ((Only.refl Nil wr).drew.alloc _) ho9 hof9 hn9); have d0 := HG.out.2.1; rw [HVF.out] at d0; have z0 := HG.out.2.2; clear hrun9 hof9 ho9 hn9))
      all_goals
        have HK := Lib.hid (HD1.out.then' (DidV.from' (F := fun k => F k ∨ w.heap.size ≤ k) (Only.refl _ _) (fun k hk => .inl (HF1.out k hk)) (fun _ h => .inl h) HG.out.1))
        rw [HS1.out, List.length_append] at HK
        clear HG d0 z0
        go_wp2_with fail
        go_roundw
        case rel => exact ⟨k + 1, by omega, by go_num, HK.out⟩
        case measure => simp only [intOf]; omega
    · have hkl2 : k = l.length := by omega
      subst hkl2
      have HX := Lib.hid hd
      clear hd
      go_wp2
      go_end0
      exact ⟨rfl, by
        have := HX.out
        rwa [List.take_length] at this⟩
def rlayR (s : WS) (due : Int) (bs : List UInt8) (s' : WS) : Prop :=
  if 4096 ≤ s.ways.length then s' = { s with lost := s.lost + 1 } else ∃ a c, s' = { s with laid := s.laid + 1, ways := s.ways ++ [⟨due, s.laid + 1, a, c, bs⟩] }
theorem info_way2 : (Try.prog.info? 73).map (fun i => (i.zero, i.size, i.bytes)) = some (some (.agg #[.int .i64 0, .slice none 0 0]), 2, 32) := by kernel_rfl
/-- A frame is laid. -/
theorem VireAt.laidOn (hA : VireAt B w F b vw vf s) (hI : IsVire B w F b s) {due : Int} {a : Option Addr} {c g cap : Nat} {bs : List UInt8} (h1 : Only Nil w w1) (hc : OwnB w.heap.size w1 (.slice a bs.length c) bs)
    (hg : GrewN w1 w2 B 73 2 vw s.ways.length 1 (flat2 s.ways) (Wy.cells2 ⟨due, s.laid + 1, a, c, bs⟩) g cap) :
    DidV B w F b s { s with laid := s.laid + 1, ways := s.ways ++ [⟨due, s.laid + 1, a, c, bs⟩] } (w2.setCell ⟨b, 1, none⟩ (.slice (some ⟨g, 0, none⟩) (s.ways.length + 1) cap)) ∧ w2.cell? ⟨b, 1, none⟩ = some vw ∧ w2.frozen? ⟨b, 1, none⟩ = false := by
  have hA1 := hA.nil h1
  have hO : Only (fun k => vw.ownBlock = some k) w1 w2 := Only.of_grown hg.grown fun k hk => .inl hk
  have hbv : vw.ownBlock ≠ some b := ownN_far hA1.ways hA1.blk (by decide)
  have hb1 := hO.blk hA1.blk hbv
  have ho : Only (One b) w2 (w2.setCell ⟨b, 1, none⟩ (.slice (some ⟨g, 0, none⟩) (s.ways.length + 1) cap)) := (Only.refl _ _).setCell (p := ⟨b, 1, none⟩) (.inl (One.self b)) _
  have hwy : ∀ {t : TypeId} {cs : List Value} {k : Nat}, Blk w1 k t cs → t ≠ 73 → ¬ vw.ownBlock = some k := fun hb ht => ownN_far hA1.ways hb (Ne.symm ht)
  have hbyte : ∀ (B' : Nat) (v : Value) (l : List UInt8), OwnB B' w1 v l → OwnB B' (w2.setCell ⟨b, 1, none⟩ (.slice (some ⟨g, 0, none⟩) (s.ways.length + 1) cap)) v l := fun B' v l he => by
    have he2 : OwnB B' w2 v l := own_only he hO fun k hk e' => by
      obtain ⟨cs, hb⟩ := blk_of_own he hk
      exact hwy hb (by decide) e'
    exact own_only he2 ho fun k hk e' => ownN_far he2 hb1 (by decide) (by rw [hk, show k = b from e'])
  have hgb : g ≠ b := fun e => by
    rcases hg.at' with h | h
    · exact hbv (by rw [h, e])
    · have := hA1.blk.lt
      omega
  have hF : Only F w (w2.setCell ⟨b, 1, none⟩ (.slice (some ⟨g, 0, none⟩) (s.ways.length + 1) cap)) := ((h1.mono (T := F) fun _ _ e => e.elim).trans hO fun k hk => .inl (hA.foot.2.1 k hk)).setCell (p := ⟨b, 1, none⟩) (.inl hA.foot.1) _
  refine ⟨⟨⟨fun k => F k ∨ (w.heap.size ≤ k ∧ k < (w2.setCell ⟨b, 1, none⟩ (.slice (some ⟨g, 0, none⟩) (s.ways.length + 1) cap)).heap.size), ⟨⟨.slice (some ⟨g, 0, none⟩) (s.ways.length + 1) cap, vf, ⟨hb1.set 1 _, ?_, ?_, fun e he => ?_, ⟨.inl hA.foot.1, fun k hk => ?_, fun k hk => .inl (hA.foot.2.2 k hk)⟩⟩⟩, fun k hk => ?_, Nat.le_trans hI.base hF.size⟩, fun k hk => hk.imp id fun h => h.1⟩, hF, fun k hk => ?_⟩, ?_, hb1.free 1⟩
  · have := ownN_only hg.own ho fun k hk e => hgb (by have : g = k := Option.some.inj hk; rw [this]; exact e)
    unfold OwV
    rw [flat2_snoc, List.length_append]
    exact this
  · have hf2 : OwF B w2 vf s.fates := hA1.fates.only hO fun k hk e => by
      rcases hA1.fates with ⟨rfl, _⟩ | ⟨g', o, cap, cs, rfl, _, hg', _⟩
      · cases hk
      · obtain rfl : g' = k := Option.some.inj hk
        exact hwy hg' (by decide) e
    exact hf2.only ho fun k hk e => fate_far hf2 hb1 (by decide) (by rw [hk, show k = b from e])
  · rcases List.mem_append.1 he with he | he
    · exact hbyte _ _ _ (hA1.each e he)
    · rw [List.mem_singleton.1 he]
      have h5 := hbyte _ _ _ hc
      have := hI.base
      exact ⟨h5.1, h5.2.imp id fun ⟨g, cap, cur, e1, e2, e3⟩ => ⟨g, cap, cur, e1, by omega, e3⟩⟩
  · obtain rfl : g = k := Option.some.inj hk
    rcases hg.at' with h | h
    · exact .inl (hA.foot.2.1 _ h)
    · have h3 := hg.lt
      have h4 := h1.size
      have h5 := ho.size
      exact .inr ⟨by omega, by omega⟩
  · rcases hk with hk | hk
    · exact ⟨(hI.own k hk).1, Nat.lt_of_lt_of_le (hI.own k hk).2 hF.size⟩
    · exact ⟨Nat.le_trans hI.base hk.1, hk.2⟩
  · obtain ⟨e, he, hk⟩ := hk
    rcases List.mem_append.1 he with he | he
    · exact .inl ⟨e, he, hk⟩
    · rw [List.mem_singleton.1 he] at hk
      exact .inr (own_block hc k hk).1
  · rw [hb1.cell, ← hA1.blk.cell]
    exact hA1.c1
set_option maxHeartbeats 3200000 in
theorem rlay_any (h : IsVire B w F b s) (hls : -1000000000000000 ≤ s.lost ∧ s.lost ≤ 1000000000000000) (due : Int) (bs : List UInt8) (hv : RB w v bs) (hl : bs.length ≤ 1000000000000) :
    Calls Try.prog 37 #[.pointer (some ⟨b, 0, none⟩), .int .i64 due, v] w fun e w' => e = .returned (.tuple #[]) ∧ ∃ s', rlayR s due bs s' ∧ DidV B w F b s s' w' := by
  obtain ⟨vw, vf, hA⟩ := h.at'
  obtain ⟨Av, cv, rfl, _⟩ := hv.form
  obtain ⟨A1, c1', hvw⟩ := hA.ways.slice
  have c1 := hA.c1
  have c3 := hA.c3
  have f3 := hA.blk.free 3
  have HVW := Lib.hid hvw
  have HH := Lib.hid h
  have HA := Lib.hid hA
  have HV := Lib.hid hv
  rw [hvw] at c1
  clear h hA hv hvw
  by_cases hfull : 4096 ≤ s.ways.length
  · have d1 : (4096 : Int) ≤ (s.ways.length : Int) := by omega
    have HLR := Lib.hid (show rlayR s due bs { s with lost := s.lost + 1 } from by unfold rlayR; rw [if_pos hfull])
    have wl : IntKind.i64.wrap (s.lost + 1) = s.lost + 1 := IntWalk.i64_in _ (by omega)
    go_enter Try.func37, Try.ntmps37
    go_wp2
    refine bodyPost_ret (results_none rfl _ _ _) rfl ?_
    exact ⟨rfl, _, HLR.out, HH.out.put HA.out 3 _ _ rfl rfl rfl⟩
  · have d1 : ¬ (4096 : Int) ≤ (s.ways.length : Int) := by omega
    have HFU := Lib.hid hfull
    obtain ⟨ib, hib, hbz, hbs, hbb⟩ := info_parts info_byte
    obtain ⟨iw, hiw, hwz, hws, hwb⟩ := info_parts info_way2
    go_enter Try.func37, Try.ntmps37
    go_wp2
    go_loopw [6, 7] (fun ov i W => ∃ k : Nat, k ≤ bs.length ∧ i = .int .i64 k ∧ OwnB w.heap.size W ov (bs.take k) ∧ Only Nil w W) (fun _ i _ => bs.length - (intOf i).toNat)
    case atStart => exact ⟨0, Nat.zero_le _, rfl, ⟨rfl, .inl ⟨rfl, rfl⟩⟩, Only.refl _ _⟩
    case round =>
      obtain ⟨k, hk, rfl, hov, ho⟩ := hrel
      have htk : (bs.take k).length = k := by rw [List.length_take]; omega
      obtain ⟨Ao, co, hoe⟩ : ∃ A c, u6 = .slice A k c := by
        have h2 : wr.ownsRow w.heap.size 5 1 u6 (bs.take k).length (BC (bs.take k)) := hov
        rw [htk] at h2
        rcases h2.2 with ⟨e, h0⟩ | ⟨g, cap, cur, e, _⟩
        · exact ⟨none, 0, by rw [e, h0]⟩
        · exact ⟨_, _, e⟩
      subst hoe
      have HOV := Lib.hid hov
      have HO := Lib.hid ho
      by_cases hkl : k < bs.length
      · have g1 : (k : Int) < (bs.length : Int) := by omega
        have hrb := HV.out.only ho fun _ _ e => e
        obtain ⟨Av', cv', e1, _, hrd⟩ := hrb
        obtain ⟨gu, ou, e2, hcell⟩ := hrd (by omega)
        injection e1 with e1 _ e1c
        subst e1 e1c e2
        have q0 := hcell k hkl
        obtain ⟨y, hy⟩ : ∃ y, bs.getD k 0 = y := ⟨_, rfl⟩
        rw [hy] at q0
        have hrow : wr.ownsRow w.heap.size 5 1 (.slice Ao k co) k (BC (bs.take k)) := by
          have h2 : wr.ownsRow w.heap.size 5 1 (.slice Ao k co) (bs.take k).length (BC (bs.take k)) := hov
          rwa [htk] at h2
        have hsz := ho.size
        have HY := Lib.hid hy
        clear hcell hrd hov ho hy htk
        go_wp2_with ((with_reducible show wpList _ _ _ (Oper.mk _ (.call { callee := .builtin .append, args := _, argTypes := _ }) _ _ _ _ :: _) _ _); refine wpList_append_row rfl (.tmp 28) (.tmp 33) 39 rfl w.heap.size 5 ib _ 1 Try.underlying39 hib hbz hbs hbb rfl (.slice Ao k co) k (BC (bs.take k)) rfl (own_only hrow ((Only.refl Nil _).alloc _) fun _ _ e => e) _ 1 1 [.int .u8 (by8 y)] rfl rfl (news_block (Blk.new _ _ _)) (by intro u hu; rw [List.mem_singleton.1 hu]; rfl) (by omega) (by unfold maxLen; omega) (by omega) (by simp; omega) ?_; intro g7 cap7 w7 hg7; have HGR := Lib.hid hg7; clear hg7)
        go_roundw
        case rel =>
          refine ⟨k + 1, by omega, by go_num, ?_, HO.out.trans ((((Only.refl Nil wr).alloc _).mono (T := fun k => w.heap.size ≤ k) (fun _ _ e => e.elim)).then (Only.of_grown HGR.out.grown fun k hk => .inl (own_block hrow k hk).1)) fun k hk => .inr hk⟩
          have h9 := HGR.out.own
          unfold OwnB
          rw [List.take_add_one, List.getElem?_eq_getElem hkl, List.length_append, BC_append]
          have : bs[k] = y := by rw [← HY.out]; simp [List.getD, hkl]
          rw [this]
          have htk : (bs.take k).length = k := by rw [List.length_take]; omega
          rw [htk]
          exact h9
        case measure => simp only [intOf]; omega
      · have hkl2 : k = bs.length := by omega
        subst hkl2
        rw [List.take_length] at hov HOV
        have hA1 := HA.out.nil ho
        have HC := Lib.hid (show OwnB w.heap.size wr (.slice Ao bs.length co) bs from hov)
        have e1 : wr.cell? ⟨b, 1, none⟩ = some (.slice A1 s.ways.length c1') := by
          rw [hA1.c1, HVW.out]
        have e1a : (wr.alloc (.cells #[.int .i64 due, .slice Ao bs.length co] 73)).cell? ⟨b, 1, none⟩ = some (.slice A1 s.ways.length c1') := by
          rw [(hA1.nil ((Only.refl Nil wr).alloc _)).c1, HVW.out]
        have HA1 := Lib.hid hA1
        have hrow : wr.ownsRow B 73 2 (.slice A1 s.ways.length c1') s.ways.length (flat2 s.ways) := by
          rw [← HVW.out]
          exact hA1.ways
        have hB := Nat.le_trans HH.out.base ho.size
        clear hov ho hA1 c1 htk
        go_wp2_with ((with_reducible show wpList _ _ _ (Oper.mk _ (.call { callee := .builtin .append, args := _, argTypes := _ }) _ _ _ _ :: _) _ _); refine wpList_append_rowN rfl (.tmp 39) (.tmp 43) 57 rfl B 73 iw _ 2 32 Try.underlying57 hiw hwz hws hwb rfl (by decide) (.slice A1 s.ways.length c1') s.ways.length (flat2 s.ways) rfl (ownN_only hrow ((Only.refl Nil _).alloc _) fun _ _ e => e) _ 1 1 (Wy.cells2 ⟨due, s.laid + 1, Ao, co, bs⟩) rfl rfl (news_block (Blk.new _ _ _)) (wy_one2 _) (by omega) (by unfold maxLen; omega) (by omega) (by simp; omega) ?_; intro g7 cap7 w7 hg7; have HGR := Lib.hid (VireAt.laidOn HA.out HH.out (HO.out.alloc _) (own_only HC.out ((Only.refl Nil _).alloc _) fun _ _ e => e) (by rw [HVW.out]; exact hg7)); have d1 := HGR.out.2.1; rw [HVW.out] at d1; have z1 := HGR.out.2.2; clear hg7)
        go_end0
        exact ⟨rfl, _, by unfold rlayR; rw [if_neg HFU.out]; exact ⟨Ao, co, rfl⟩, HGR.out.1⟩
end
end Go.Proofs.Ytkkjnembjlgiaaa
