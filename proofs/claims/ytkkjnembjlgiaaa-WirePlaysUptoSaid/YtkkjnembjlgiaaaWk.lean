/-
  Fates: fates are laid behind those that are there.
-/
import Derived.Test.YtkkjnembjlgiaaaWj
namespace Go.Proofs.Ytkkjnembjlgiaaa
set_option maxRecDepth 100000
open Go.RowKit

theorem info_fate : (Try.prog.info? 46).map (fun i => (i.zero, i.size, i.bytes)) = some (some (.agg #[.bool false, .int .i64 0, .int .i64 0]), 3, 24) := by kernel_rfl
def setAll : List Value → Nat → List Value → List Value
  | cs, _, [] => cs
  | cs, o, v :: r => setAll (cs.set o v) (o + 1) r
theorem setAll_length : ∀ (vs : List Value) (o : Nat) (cs : List Value), (setAll cs o vs).length = cs.length
  | [], _, _ => rfl
  | v :: r, o, cs => by
    show (setAll (cs.set o v) (o + 1) r).length = _
    rw [setAll_length r, List.length_set]
theorem setAll_get : ∀ (vs : List Value) (o : Nat) (cs : List Value) (j : Nat), j < cs.length → (setAll cs o vs)[j]? = if o ≤ j ∧ j < o + vs.length then vs[j - o]? else cs[j]?
  | [], o, cs, j, _ => by
    show cs[j]? = _
    rw [if_neg (by simp)]
  | v :: r, o, cs, j, hj => by
    show (setAll (cs.set o v) (o + 1) r)[j]? = _
    rw [setAll_get r (o + 1) (cs.set o v) j (by rw [List.length_set]; exact hj)]
    by_cases h1 : j = o
    · subst h1
      rw [if_neg (by omega), if_pos (by simp), List.getElem?_set_self hj]
      simp
    · rw [List.getElem?_set_ne (by omega)]
      by_cases h2 : o + 1 ≤ j ∧ j < o + 1 + r.length
      · rw [if_pos h2, if_pos (by simp; omega), show j - o = (j - (o + 1)) + 1 by omega, List.getElem?_cons_succ]
      · rw [if_neg h2, if_neg (by simp; omega)]
section
variable {B : Nat} {w w' w1 : World} {F S : Nat → Prop} {b g : Nat} {vw vf v' : Value} {s : WS}
theorem blk_setCells {t : TypeId} : ∀ (vs : List Value) (o : Nat) (cs : List Value) (W : World), Blk W g t cs → Blk (W.setCells g o vs) g t (setAll cs o vs)
  | [], _, _, _, h => h
  | v :: r, o, cs, _, h => blk_setCells r (o + 1) (cs.set o v) _ (h.set o v)
theorem only_setCells : ∀ (vs : List Value) (o : Nat) (W : World), Only (One g) W (W.setCells g o vs)
  | [], _, W => Only.refl _ W
  | v :: r, o, W => ((Only.refl _ W).setCell (p := ⟨g, o, none⟩) (.inl (One.self g)) v).then (only_setCells r (o + 1) _)
/-- Fates that come in. -/
def RF (W : World) (v : Value) (l : List Ft) : Prop := ∃ A c, v = .slice A l.length c ∧ l.length ≤ c ∧ (0 < l.length → ∃ g o, A = some ⟨g, o, none⟩ ∧ ∀ j u, (flatF l)[j]? = some u → W.cell? ⟨g, o + j, none⟩ = some u)
theorem flatF_one (l : List Ft) : ∀ u ∈ flatF l, u.oneCell' = true := by
  intro u hu
  obtain ⟨f, _, hf⟩ := List.mem_flatMap.1 hu
  simp only [Ft.cells, List.mem_cons, List.not_mem_nil, or_false] at hf
  rcases hf with rfl | rfl | rfl <;> rfl
theorem OwF.of_own {v : Value} {l : List Ft} (h : w.ownsRow B 46 3 v l.length (flatF l)) : OwF B w v l := by
  rcases h.2 with ⟨rfl, h0⟩ | ⟨k, c, cur, rfl, hB, hg, hc, hm, hs, ht⟩
  · exact .inl ⟨rfl, List.eq_nil_of_length_eq_zero h0⟩
  · exact .inr ⟨k, 0, c, cur.toList, rfl, hB, by unfold Blk; simpa using hg, hc, hm, by simp [hs], by simpa using ht⟩
theorem run_append_fates (ty : TypeId) (l0 l : List Ft) (v : Value) (h : OwF B w vf l0) (hv : RF w v l) (hn : l0.length + l.length ≤ 5864062014700) (hB : B ≤ w.heap.size) :
    ∃ v' w', (Builtin.append_ #[40, 40] ty #[vf, v]).run Try.prog w = .ok v' w' ∧ OwF B w' v' (l0 ++ l) ∧ Only (fun k => vf.ownBlock = some k) w w' ∧ (∀ k, v'.ownBlock = some k → vf.ownBlock = some k ∨ w.heap.size ≤ k) := by
  obtain ⟨ib, hib, hbz, hbs, hbb⟩ := info_parts info_fate
  have hu := Try.underlying40
  have hm : maxLen = 9223372036854775807 := rfl
  obtain ⟨A, c, rfl, hc, hr⟩ := hv
  cases A with
  | none =>
    have h0 : l = [] := List.eq_nil_of_length_eq_zero (by
      rcases Nat.eq_zero_or_pos l.length with h | h
      · exact h
      · obtain ⟨g, o, e, _⟩ := hr h
        cases e)
    subst h0
    refine ⟨vf, w, ?_, by simpa using h, Only.refl _ _, fun k hk => .inl hk⟩
    rcases h with ⟨rfl, rfl⟩ | ⟨g, o, cap, cs, rfl, _, _, hnc, _⟩
    · simp [Builtin.append_, run_underlying hu, sizeOf, typeInfo, hib, Builtin.lenOf, Builtin.firstCells]
    · simp [Builtin.append_, run_underlying hu, sizeOf, typeInfo, hib, Builtin.lenOf, Builtin.firstCells, hnc, storeCells]
  | some a =>
    have hnews : ∀ j u, (flatF l)[j]? = some u → w.cell? (a.add j) = some u := by
      intro j u hj
      have hjl : j < l.length * 3 := by have := (List.getElem?_eq_some_iff.1 hj).1; rwa [flatF_len] at this
      obtain ⟨g, o, e1, hc1⟩ := hr (by omega)
      obtain rfl := Option.some.inj e1
      rw [Addr.add_mid]
      exact hc1 j u hj
    rcases h with ⟨rfl, rfl⟩ | ⟨g, o, cap, cs, rfl, hBg, hb, hnc, hcm, hcs, ht⟩
    · obtain ⟨v', w', h1, h2, h3, _, h5⟩ := run_append_own_at (P := Try.prog) (w := w) B 40 ty 46 ib _ 3 24 hu hib hbz hbs hbb rfl (by decide) (.slice none 0 0) 0 [] ⟨rfl, .inl ⟨rfl, rfl⟩⟩ a l.length c (flatF l) (flatF_len l) hnews (flatF_one l) (by omega) (by simp at hn; omega) hB
      refine ⟨v', w', h1, OwF.of_own (by simpa using h2), Only.of_grown h3 fun k hk => .inl hk, fun k hk => ?_⟩
      rcases h5 with h5 | h5
      · rw [h5] at hk
        cases hk
      · rw [h5] at hk
        injection hk with hk
        exact .inr (by omega)
    · by_cases hfit : l0.length + l.length ≤ cap
      · have hsz : ∀ j, j < l.length * 3 → o + l0.length * 3 + j < cs.length := fun j hj => by omega
        have hrun := run_append_room_cells (P := Try.prog) (w := w) 40 ty 46 ib hu hib g o l0.length cap a l.length c (flatF l) (by rw [flatF_len, hbs]) hnews (flatF_one l) hfit
          (fun j hj => by rw [flatF_len] at hj; rw [hbs, hb.cell, List.getElem?_eq_getElem (hsz j hj)]; rfl) (fun j _ => hb.free _)
        rw [hbs] at hrun
        have hb2 := blk_setCells (flatF l) (o + l0.length * 3) cs w hb
        refine ⟨_, _, hrun, .inr ⟨g, o, cap, _, by rw [List.length_append], hBg, hb2, by rw [List.length_append]; exact hfit, hcm, by rw [setAll_length]; exact hcs, ?_⟩, (only_setCells (g := g) _ _ _).mono fun k _ e => by rw [show k = g from e]; rfl, fun k hk => .inl hk⟩
        rw [flatF_append, List.length_append]
        apply List.ext_getElem?
        intro j
        by_cases hj : j < (l0.length + l.length) * 3
        · rw [List.getElem?_take_of_lt hj, List.getElem?_drop, setAll_get _ _ _ _ (by omega), flatF_len]
          by_cases hj0 : j < l0.length * 3
          · rw [if_neg (by omega), List.getElem?_append_left (by rw [flatF_len]; exact hj0), ← ht, List.getElem?_take_of_lt hj0, List.getElem?_drop]
          · rw [if_pos (by omega), List.getElem?_append_right (by rw [flatF_len]; omega), flatF_len]
            congr 1
            omega
        · rw [List.getElem?_eq_none (by simp; omega), List.getElem?_eq_none (by rw [List.length_append, flatF_len, flatF_len]; omega)]
      · have holds : ∀ j u, (flatF l0)[j]? = some u → w.cell? ((⟨g, o, none⟩ : Addr).add j) = some u := by
          intro j u hj
          have hjl : j < l0.length * 3 := by have := (List.getElem?_eq_some_iff.1 hj).1; rwa [flatF_len] at this
          rw [Addr.add_mid, hb.cell, ← hj, ← ht, List.getElem?_take_of_lt hjl, List.getElem?_drop]
        obtain ⟨v', w', h1, h2, h3⟩ := run_append_arg_grows (P := Try.prog) w 40 ty 46 ib _ 3 24 hu hib hbz hbs hbb rfl (by decide) ⟨g, o, none⟩ l0.length cap (flatF l0) (flatF_len l0) holds a l.length c (flatF l) (flatF_len l) hnews (by omega) (by omega) (by omega)
        have h2' : w'.ownsRow w.heap.size 46 3 v' (l0 ++ l).length (flatF (l0 ++ l)) := by rw [flatF_append, List.length_append]; exact h2
        refine ⟨v', w', h1, ?_, Only.of_grown h3 fun k hk => (by cases hk), fun k hk => .inr (ownN_block h2' k hk).1⟩
        refine OwF.of_own ⟨h2'.1, h2'.2.imp id fun ⟨k, c, cur, e1, e2, e3⟩ => ⟨k, c, cur, e1, by omega, e3⟩⟩
/-- New fates in the wire. -/
theorem WireAt.fated (hA : WireAt B w F b vw vf s) {l : List Ft} {w0 : World} (hsz : w0.heap.size ≤ w.heap.size) (h1 : Only (fun k => vf.ownBlock = some k) w w1) (hf : OwF B w1 v' (s.fates ++ l)) (hn : ∀ k, v'.ownBlock = some k → vf.ownBlock = some k ∨ w.heap.size ≤ k) :
    WireAt B (w1.setCell ⟨b, 4, none⟩ v') (Wide F w0 (w1.setCell ⟨b, 4, none⟩ v')) b vw v' { s with fates := s.fates ++ l } ∧ Only F w (w1.setCell ⟨b, 4, none⟩ v') := by
  have hbv : vf.ownBlock ≠ some b := fate_far hA.fates hA.blk (by decide)
  have hb1 := h1.blk hA.blk hbv
  have ho : Only (One b) w1 (w1.setCell ⟨b, 4, none⟩ v') := (Only.refl _ _).setCell (p := ⟨b, 4, none⟩) (.inl (One.self b)) v'
  have hfr : ∀ {t : TypeId} {cs : List Value} {g : Nat}, Blk w g t cs → 46 ≠ t → ¬ vf.ownBlock = some g := fun hb ht => fate_far hA.fates hb ht
  have hbyte : ∀ e ∈ s.ways, OwnB B (w1.setCell ⟨b, 4, none⟩ v') e.d e.bs := fun e he => by
    have he1 : OwnB B w1 e.d e.bs := own_only (hA.each e he) h1 fun k hk e' => by
      rcases hA.fates with ⟨rfl, _⟩ | ⟨g, o, cap, cs, rfl, _, hg, _⟩
      · cases e'
      · obtain rfl : g = k := Option.some.inj e'
        exact ownN_far (hA.each e he) hg (by decide) hk
    exact own_only he1 ho fun k hk e' => ownN_far he1 hb1 (by decide) (by rw [hk, show k = b from e'])
  have hways : OwW B w1 vw s.ways := ownN_only hA.ways h1 fun k hk e => by
    rcases hA.fates with ⟨rfl, _⟩ | ⟨g, o, cap, cs, rfl, _, hg, _⟩
    · cases e
    · obtain rfl : g = k := Option.some.inj e
      exact ownN_far hA.ways hg (by decide) hk
  have hlt : ∀ k, v'.ownBlock = some k → k < w1.heap.size := fun k hk => by
    rcases hf with ⟨rfl, _⟩ | ⟨g, o, cap, cs, rfl, _, hg, _⟩
    · cases hk
    · obtain rfl : g = k := Option.some.inj hk
      exact hg.lt
  refine ⟨⟨hb1.set 4 v', ?_, ?_, hbyte, hA.far, ⟨.inl hA.foot.1, fun k hk => .inl (hA.foot.2.1 k hk), fun k hk => ?_, fun e he k hk => .inl (hA.foot.2.2.2 e he k hk)⟩⟩, (h1.mono fun k _ hk => hA.foot.2.2.1 k hk).setCell (p := ⟨b, 4, none⟩) (.inl hA.foot.1) _⟩
  · exact ownN_only hways ho fun k hk e => ownN_far hways hb1 wire_ne_way (by rw [hk, show k = b from e])
  · exact hf.only ho fun k hk e => fate_far hf hb1 (by decide) (by rw [hk, show k = b from e])
  · rcases hn k hk with h | h
    · exact .inl (hA.foot.2.2.1 k h)
    · exact .inr ⟨by omega, Nat.lt_of_lt_of_le (hlt k hk) ho.size⟩
set_option maxHeartbeats 1600000 in
theorem fates_any (h : IsWire B w F b s) (l : List Ft) (v : Value) (hv : RF w v l) (hn : s.fates.length + l.length ≤ 5864062014700) :
    Calls Try.prog 12 #[.pointer (some ⟨b, 0, none⟩), v] w fun e w' => e = .returned (.tuple #[]) ∧ Did B w F b { s with fates := s.fates ++ l } w' := by
  obtain ⟨vw, vf, hA⟩ := h.at'
  have c4 := hA.c4
  have hff := hA.fates
  obtain ⟨A4, q4, e4⟩ := hff.slice
  have HE4 := Lib.hid e4
  obtain ⟨A5, q5, e5, _⟩ := id hv
  have HE5 := Lib.hid e5
  have HH := Lib.hid h
  have HA := Lib.hid hA
  have hbv : vf.ownBlock ≠ some b := fate_far hA.fates hA.blk (by decide)
  have HBV := Lib.hid hbv
  obtain ⟨v', w1, hrun, hof, ho1, hn1⟩ := run_append_fates (vf := vf) 40 s.fates l v hff hv hn h.base
  obtain ⟨A6, q6, rfl⟩ := hof.slice
  have hb1 := ho1.blk hA.blk hbv
  have d4 : w1.cell? ⟨b, 4, none⟩ = some vf := by rw [hb1.cell, ← hA.blk.cell]; exact c4
  have f4 := hb1.free 4
  have HX := Lib.hid (hA.fated (l := l) (w0 := w) (Nat.le_refl _) ho1 hof hn1)
  clear h hA hff hv e4 e5 hbv hb1 hof ho1 hn1
  go_enter Try.func12, Try.ntmps12
  rw [HE4.out] at c4 d4 hrun
  rw [HE5.out] at hrun ⊢
  go_wp2_with ((with_reducible show wpList _ _ _ (Oper.mk _ (.call { callee := .builtin .append, args := _, argTypes := _ }) _ _ _ _ :: _) _ _); refine wpList_append_run rfl (.tmp 8) (.tmp 9) 40 40 rfl _ _ rfl rfl hrun ?_)
  go_end0
  have hx := HX.out
  rw [List.length_append] at hx
  have hsz := hx.2.size
  refine ⟨rfl, ⟨⟨_, ⟨⟨vw, _, hx.1⟩, fun k hk => ?_, Nat.le_trans HH.out.base hsz⟩, fun k hk => hk.imp id fun h => h.1⟩, hx.2⟩⟩
  rcases hk with hk | hk
  · exact ⟨(HH.out.own k hk).1, Nat.lt_of_lt_of_le (HH.out.own k hk).2 hsz⟩
  · exact ⟨Nat.le_trans HH.out.base hk.1, hk.2⟩
end
end Go.Proofs.Ytkkjnembjlgiaaa
