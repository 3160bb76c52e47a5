/-
  Events and a configuration that come in as arguments: what they read as.
-/
import Derived.Test.YthoaeolohnalnaaRow2
import Derived.Test.YthoaeolohnalnaaJi
namespace Go.Proofs.Ythoaeolohnalnaa
open Go.ChangeShapes Go.WideShapes Go.ChangeAt Go.RowKit Go.Deep

section
variable {H : Type} {enc : TypeId × Value → H} {w : World} {base : Nat} {spare : Nat → Bool} {held : Bool}
theorem weights_all {P : Program} {e : TypeId} : ∀ {l : List (DataW H)} {d : DataW H}, d ∈ l → ∀ n ∈ d.weights P e, n ∈ DataW.weightsAll P e l
  | x :: r, d, h, n, hn => by
    simp only [DataW.weightsAll, List.mem_append]
    rcases List.mem_cons.1 h with rfl | h
    · exact .inl hn
    · exact .inr (weights_all h n hn)
theorem ev_parts : ∃ f0 f1 f2 f3 f4 f5 f6 : Field, Try.prog.underlying 48 = some (.struct #[f0, f1, f2, f3, f4, f5, f6]) ∧ (f0.type = 3 ∧ f1.type = 3 ∧ f2.type = 39 ∧ f3.type = 3 ∧ f4.type = 3 ∧ f5.type = 3 ∧ f6.type = 46) ∧
    oneCellFields Try.prog #[f0, f1, f2, f3, f4, f5, f6] = true :=
  ⟨_, _, _, _, _, _, _, Try.underlying48, ⟨rfl, rfl, rfl, rfl, rfl, rfl, rfl⟩, by kernel_rfl⟩
theorem ev_of_trod {fuel : Nat} {cs : List Value} {x : DataW H × List MemPlace} (h : DataW.trod enc Try.prog w base spare held fuel 48 cs = some x) (hl : cs.length = 7) (hw : ∀ n ∈ x.1.weights Try.prog 48, n ≤ reachBytes) :
    ∃ e : Ev, cs = e.cells ∧ e.ok w ∧ e.data.length ≤ reachBytes := by
  obtain ⟨f0, f1, f2, f3, f4, f5, f6, hs, ⟨t0, t1, t2, t3, t4, t5, t6⟩, hone⟩ := ev_parts
  obtain ⟨xs, n, _, hx, _, hlen, hg⟩ := DataW.trod_struct hs h
  obtain ⟨o0, k0⟩ := hone_of hone 0 f0 rfl
  obtain ⟨o1, k1⟩ := hone_of hone 1 f1 rfl
  obtain ⟨o2, k2⟩ := hone_of hone 2 f2 rfl
  obtain ⟨o3, k3⟩ := hone_of hone 3 f3 rfl
  obtain ⟨o4, k4⟩ := hone_of hone 4 f4 rfl
  obtain ⟨o5, k5⟩ := hone_of hone 5 f5 rfl
  obtain ⟨o6, k6⟩ := hone_of hone 6 f6 rfl
  match cs, hl, xs, hlen with
  | [c0, c1, c2, c3, c4, c5, c6], _, [y0, y1, y2, y3, y4, y5, y6], _ =>
    have g0 := hg 0 f0 rfl
    have g1 := hg 1 f1 rfl
    have g2 := hg 2 f2 rfl
    have g3 := hg 3 f3 rfl
    have g4 := hg 4 f4 rfl
    have g5 := hg 5 f5 rfl
    have g6 := hg 6 f6 rfl
    rw [o0, k0, t0] at g0
    rw [o1, k1, t1] at g1
    rw [o2, k2, t2] at g2
    rw [o3, k3, t3] at g3
    rw [o4, k4, t4] at g4
    rw [o5, k5, t5] at g5
    rw [o6, k6, t6] at g6
    obtain ⟨a0, e0, _, _⟩ := DataW.trod_int Try.underlying3 g0
    obtain ⟨a1, e1, _, _⟩ := DataW.trod_int Try.underlying3 g1
    obtain ⟨a2, e2, _, w2⟩ := DataW.trod_int Try.underlying39 g2
    obtain ⟨a3, e3, _, _⟩ := DataW.trod_int Try.underlying3 g3
    obtain ⟨a4, e4, _, _⟩ := DataW.trod_int Try.underlying3 g4
    obtain ⟨a5, e5, _, _⟩ := DataW.trod_int Try.underlying3 g5
    obtain rfl : c0 = .int .i64 a0 := by simpa using e0
    obtain rfl : c1 = .int .i64 a1 := by simpa using e1
    obtain rfl : c2 = .int .u32 a2 := by simpa using e2
    obtain rfl : c3 = .int .i64 a3 := by simpa using e3
    obtain rfl : c4 = .int .i64 a4 := by simpa using e4
    obtain rfl : c5 = .int .i64 a5 := by simpa using e5
    obtain ⟨bs, hb, hbl⟩ := rb_of_trod2 Try.underlying46 Try.underlying5 (by kernel_rfl) (show DataW.trod enc Try.prog w base spare held n 46 [c6] = some y6 from g6)
    obtain ⟨A, c, rfl, hc⟩ := hb.form
    have hb1 : Try.prog.bytesOf 5 = 1 := by kernel_rfl
    simp only [Lit.wf, Bool.and_eq_true, decide_eq_true_eq] at w2
    have hmn : IntKind.u32.min = 0 := by decide
    have hmx : IntKind.u32.max = 4294967295 := by decide
    refine ⟨⟨a0, a1, a2, a3, a4, a5, A, c, bs⟩, rfl, ⟨by show 0 ≤ a2; omega, by show a2 < 4294967296; omega, hb⟩, ?_⟩
    show bs.length ≤ reachBytes
    rcases hbl with rfl | ⟨es, sp, hes, hel⟩
    · exact Nat.zero_le _
    · have hd : x.1 = .agg [y0.1, y1.1, y2.1, y3.1, y4.1, y5.1, y6.1] := by
        rw [hx]
        rfl
      have := hw ((es.length + sp.length) * 1) (by
        rw [hd]
        simp only [DataW.weights, hs]
        refine DataW.weights_mem_each (j := 6) (t := f6.type) rfl (d := y6.1) rfl _ ?_
        rw [t6, hes]
        simp [DataW.weights, Try.underlying46, hb1])
      omega
theorem evs_of_trod {fuel : Nat} {v : Value} {x : DataW H × List MemPlace} (h : DataW.trod enc Try.prog w base spare held fuel 27 [v] = some x) (hw : ∀ n ∈ x.1.weights Try.prog 27, n ≤ reachBytes) :
    ∃ l, Evs w v l ∧ (∀ j, j < l.length → (l.getD j ev0).data.length ≤ reachBytes) ∧ l.length * 72 ≤ reachBytes := by
  rcases open_slice Try.underlying27 h with ⟨hcs, _⟩ | ⟨a, len, cap, m, n, D, Pl, hcs, _, hl, _, hmm, rfl, hat⟩
  · obtain rfl : v = .slice none 0 0 := by simpa using hcs
    exact ⟨[], ⟨none, 0, rfl, Nat.le_refl _, fun h => absurd h (by simp)⟩, fun j hj => absurd hj (by simp), Nat.zero_le _⟩
  · obtain rfl : v = .slice (some a) len cap := by simpa using hcs
    have hlm : len ≤ m := by rw [hmm]; split <;> omega
    have hC : Try.prog.cellsOf 48 = 7 := by kernel_rfl
    have hB : Try.prog.bytesOf 48 = 72 := by kernel_rfl
    have hwE : ∀ i, i < len → ∀ n ∈ (D i).weights Try.prog 48, n ≤ reachBytes := fun i hi n hn => hw n (by
      simp only [DataW.weights, Try.underlying27, List.mem_cons, List.mem_append]
      exact .inr (.inl (weights_all (List.mem_map.2 ⟨i, List.mem_range.2 hi, rfl⟩) n hn)))
    have hwL : len * 72 ≤ reachBytes := by
      have := hw ((((List.range len).map D).length + ((List.range (m - len)).map fun j => D (len + j)).length) * 72) (by
        simp only [DataW.weights, Try.underlying27, hB, List.mem_cons]
        exact .inl trivial)
      simp only [List.length_map, List.length_range] at this
      omega
    have hin : Inhabited Ev := ⟨ev0⟩
    obtain ⟨f, hf⟩ := choose_lt (α := Ev) (n := len) (p := fun i e => (∀ j, j < 7 → w.cell? (a.add (i * 7 + j)) = e.cells[j]?) ∧ e.ok w ∧ e.data.length ≤ reachBytes) (fun i hi => by
      obtain ⟨cs', hc, ht⟩ := hat i (by omega)
      rw [hC] at hc
      obtain ⟨_, hcl, hcell⟩ := World.cells?_some hc
      obtain ⟨e, rfl, hok, hdl⟩ := ev_of_trod ht hcl (hwE i hi)
      refine ⟨e, fun j hj => ?_, hok, hdl⟩
      have := hcell j hj
      rw [add_add] at this
      exact this)
    have hfl : ((List.range len).map f).length = len := by simp
    have hget : ∀ j, j < len → ((List.range len).map f).getD j ev0 = f j := fun j hj => getD_map_range f len j ev0 hj
    refine ⟨(List.range len).map f, ⟨some a, cap, by rw [hfl], by rw [hfl]; exact hl, fun h0 => ?_⟩, fun j hj => ?_, by rw [hfl]; exact hwL⟩
    · rw [hfl] at h0
      obtain ⟨b, off, spot⟩ := a
      have hspot : spot = none := by
        have := World.cell?_spot ((hf 0 h0).1 0 (by omega))
        simpa [Addr.add] using this
      subst hspot
      refine ⟨b, off, rfl, fun j hj => ?_⟩
      rw [hfl] at hj
      obtain ⟨h1, h2, _⟩ := hf j hj
      rw [hget j hj]
      refine ⟨fun i hi => ?_, h2⟩
      have := h1 i hi
      rw [Go.WideShapes.add_plain] at this
      rw [Nat.add_assoc]
      exact this
    · rw [hfl] at hj
      rw [hget j hj]
      exact (hf j hj).2.2
theorem open_evs {r : Reach} {b0 : Nat} {v : Value} {d : DataW H} {ps : List MemPlace} (hval : Value.okWide Try.prog w r b0 27 v) (h : DataW.Trod enc Try.prog w base spare held 27 v d ps) (hw : ∀ n ∈ d.weights Try.prog 27, n ≤ reachBytes) :
    ∃ l, Evs w v l ∧ (∀ j, j < l.length → (l.getD j ev0).data.length ≤ reachBytes) ∧ l.length * 72 ≤ reachBytes := by
  obtain ⟨a0, len, cap, rfl⟩ := okWide_slice Try.underlying27 hval
  obtain ⟨fuel, hf⟩ := h
  exact evs_of_trod hf hw
/-- An array of n bytes, its cells. -/
theorem cells_of_trod {P : Program} {t e : TypeId} {n fuel : Nat} {cs : List Value} {x : DataW H × List MemPlace} (ht : P.underlying t = some (.array n e)) (he : P.underlying e = some (.int .u8)) (hc : P.cellsOf e = 1) (hl : cs.length = n)
    (h : DataW.trod enc P w base spare held fuel t cs = some x) : ∃ bs : List UInt8, cs = BC bs ∧ bs.length = n := by
  obtain ⟨xs, m, rfl, _, hlx, hxl, hall⟩ := DataW.trod_array ht h
  have key : ∀ i (hi : i < cs.length), ∃ c : UInt8, cs[i] = .int .u8 (by8 c) := by
    intro i hi
    have h1 := hall i (by omega)
    rw [hc, Nat.mul_one, List.getElem?_eq_getElem (show i < xs.length by omega)] at h1
    obtain ⟨a, ea, _, wa⟩ := DataW.trod_int he h1
    have e2 : cs[i] = .int .u8 a := by
      have : ((cs.drop i).take 1)[0]? = some (Value.int .u8 a) := by
        rw [ea]
        rfl
      rw [List.getElem?_take_of_lt (by decide), List.getElem?_drop, Nat.add_zero, List.getElem?_eq_getElem hi] at this
      exact Option.some.inj this
    simp only [Lit.wf, Bool.and_eq_true, decide_eq_true_eq] at wa
    have hmn : IntKind.u8.min = 0 := by decide
    have hmx : IntKind.u8.max = 255 := by decide
    refine ⟨UInt8.ofNat a.toNat, ?_⟩
    rw [e2, by8_ofNat]
    congr 1
    omega
  refine ⟨cs.map fun v => match v with | .int _ x => UInt8.ofNat x.toNat | _ => 0, ?_, by rw [List.length_map]; exact hl⟩
  apply List.ext_getElem (by simp [BC_length])
  intro i h1 h2
  obtain ⟨c, hcc⟩ := key i h1
  simp only [BC, List.getElem_map, hcc]
  congr 1
  unfold by8
  congr 1
  have := c.toNat_lt
  rw [Int.toNat_natCast]
  simp
end
end Go.Proofs.Ythoaeolohnalnaa
