/-
  Fates, and numbers, that come in as arguments: what they read as.
-/
import Derived.Test.YtkkjnembjlgiaaaRow2
import Derived.Test.YtkkjnembjlgiaaaWr
namespace Go.Proofs.Ytkkjnembjlgiaaa
set_option maxRecDepth 100000
open Go.ChangeShapes Go.WideShapes Go.ChangeAt Go.RowKit Go.Deep

section
variable {H : Type} {enc : TypeId × Value → H} {w : World} {base : Nat} {spare : Nat → Bool} {held : Bool}
theorem weights_all {P : Program} {e : TypeId} : ∀ {l : List (DataW H)} {d : DataW H}, d ∈ l → ∀ n ∈ d.weights P e, n ∈ DataW.weightsAll P e l
  | x :: r, d, h, n, hn => by
    simp only [DataW.weightsAll, List.mem_append]
    rcases List.mem_cons.1 h with rfl | h
    · exact .inl hn
    · exact .inr (weights_all h n hn)
theorem ft_parts : ∃ f0 f1 f2 : Field, Try.prog.underlying 46 = some (.struct #[f0, f1, f2]) ∧ (f0.type = 4 ∧ f1.type = 3 ∧ f2.type = 3) ∧
    oneCellFields Try.prog #[f0, f1, f2] = true :=
  ⟨_, _, _, Try.underlying46, ⟨rfl, rfl, rfl⟩, by kernel_rfl⟩
theorem ft_of_trod {fuel : Nat} {cs : List Value} {x : DataW H × List MemPlace} (h : DataW.trod enc Try.prog w base spare held fuel 46 cs = some x) (hl : cs.length = 3) :
    ∃ e : Ft, cs = e.cells := by
  obtain ⟨f0, f1, f2, hs, ⟨t0, t1, t2⟩, hone⟩ := ft_parts
  obtain ⟨xs, n, _, hx, _, hlen, hg⟩ := DataW.trod_struct hs h
  obtain ⟨o0, k0⟩ := hone_of hone 0 f0 rfl
  obtain ⟨o1, k1⟩ := hone_of hone 1 f1 rfl
  obtain ⟨o2, k2⟩ := hone_of hone 2 f2 rfl
  match cs, hl, xs, hlen with
  | [c0, c1, c2], _, [y0, y1, y2], _ =>
    have g0 := hg 0 f0 rfl
    have g1 := hg 1 f1 rfl
    have g2 := hg 2 f2 rfl
    rw [o0, k0, t0] at g0
    rw [o1, k1, t1] at g1
    rw [o2, k2, t2] at g2
    obtain ⟨a0, e0, _⟩ := DataW.trod_bool Try.underlying4 g0
    obtain ⟨a1, e1, _, _⟩ := DataW.trod_int Try.underlying3 g1
    obtain ⟨a2, e2, _, _⟩ := DataW.trod_int Try.underlying3 g2
    obtain rfl : c0 = .bool a0 := by simpa using e0
    obtain rfl : c1 = .int .i64 a1 := by simpa using e1
    obtain rfl : c2 = .int .i64 a2 := by simpa using e2
    exact ⟨⟨a0, a1, a2⟩, rfl⟩
theorem fts_of_trod {fuel : Nat} {v : Value} {x : DataW H × List MemPlace} (h : DataW.trod enc Try.prog w base spare held fuel 40 [v] = some x) (hw : ∀ n ∈ x.1.weights Try.prog 40, n ≤ reachBytes) :
    ∃ l, RF w v l ∧ l.length * 24 ≤ reachBytes := by
  rcases open_slice Try.underlying40 h with ⟨hcs, _⟩ | ⟨a, len, cap, m, n, D, Pl, hcs, _, hl, _, hmm, rfl, hat⟩
  · obtain rfl : v = .slice none 0 0 := by simpa using hcs
    exact ⟨[], ⟨none, 0, rfl, Nat.le_refl _, fun h => absurd h (by simp)⟩, Nat.zero_le _⟩
  · obtain rfl : v = .slice (some a) len cap := by simpa using hcs
    have hlm : len ≤ m := by rw [hmm]; split <;> omega
    have hC : Try.prog.cellsOf 46 = 3 := by kernel_rfl
    have hB : Try.prog.bytesOf 46 = 24 := by kernel_rfl
    have hwL : len * 24 ≤ reachBytes := by
      have := hw ((((List.range len).map D).length + ((List.range (m - len)).map fun j => D (len + j)).length) * 24) (by
        simp only [DataW.weights, Try.underlying40, hB, List.mem_cons]
        exact .inl trivial)
      simp only [List.length_map, List.length_range] at this
      omega
    have hin : Inhabited Ft := ⟨ft0⟩
    obtain ⟨f, hf⟩ := choose_lt (α := Ft) (n := len) (p := fun i e => ∀ j, j < 3 → w.cell? (a.add (i * 3 + j)) = e.cells[j]?) (fun i hi => by
      obtain ⟨cs', hc, ht⟩ := hat i (by omega)
      rw [hC] at hc
      obtain ⟨_, hcl, hcell⟩ := World.cells?_some hc
      obtain ⟨e, rfl⟩ := ft_of_trod ht hcl
      refine ⟨e, fun j hj => ?_⟩
      have := hcell j hj
      rw [add_add] at this
      exact this)
    have hfl : ((List.range len).map f).length = len := by simp
    have hget : ∀ j, j < len → ((List.range len).map f).getD j ft0 = f j := fun j hj => getD_map_range f len j ft0 hj
    refine ⟨(List.range len).map f, ⟨some a, cap, by rw [hfl], by rw [hfl]; exact hl, fun h0 => ?_⟩, by rw [hfl]; exact hwL⟩
    rw [hfl] at h0
    obtain ⟨b, off, spot⟩ := a
    have hspot : spot = none := by
      have := World.cell?_spot ((hf 0 h0 0 (by omega)).trans (List.getElem?_eq_getElem (show 0 < (f 0).cells.length from by show 0 < 3; decide)))
      simpa [Addr.add] using this
    subst hspot
    refine ⟨b, off, rfl, fun j u hu => ?_⟩
    have hj : j < len * 3 := by
      have := (List.getElem?_eq_some_iff.1 hu).1
      rwa [flatF_len, hfl] at this
    have e1 : j = j / 3 * 3 + j % 3 := by omega
    have h2 := hf (j / 3) (by omega) (j % 3) (by omega)
    rw [Go.WideShapes.add_plain, ← e1] at h2
    rw [h2, ← hu]
    have h3 := flatF_get ((List.range len).map f) (j / 3) (j % 3) (by rw [hfl]; omega) (by omega)
    rw [← e1, hget _ (by omega)] at h3
    exact h3.symm
theorem open_fts {r : Reach} {b0 : Nat} {v : Value} {d : DataW H} {ps : List MemPlace} (hval : Value.okWide Try.prog w r b0 40 v) (h : DataW.Trod enc Try.prog w base spare held 40 v d ps) (hw : ∀ n ∈ d.weights Try.prog 40, n ≤ reachBytes) :
    ∃ l, RF w v l ∧ l.length * 24 ≤ reachBytes := by
  obtain ⟨a0, len, cap, rfl⟩ := okWide_slice Try.underlying40 hval
  obtain ⟨fuel, hf⟩ := h
  exact fts_of_trod hf hw
theorem open_nums {r : Reach} {b0 : Nat} {v : Value} {d : DataW H} {ps : List MemPlace} (hval : Value.okWide Try.prog w r b0 43 v) (h : DataW.Trod enc Try.prog w base spare held 43 v d ps) (hw : ∀ n ∈ d.weights Try.prog 43, n ≤ reachBytes) :
    ∃ l, RV w v (IC l) ∧ l.length * 8 ≤ reachBytes := by
  obtain ⟨a0, len0, cap0, rfl⟩ := okWide_slice Try.underlying43 hval
  obtain ⟨fuel, hf⟩ := h
  have hB : Try.prog.bytesOf 3 = 8 := by kernel_rfl
  have hf : DataW.trod enc Try.prog w base spare held fuel 43 [Value.slice a0 len0 cap0] = some (d, ps) := hf
  rcases open_ints Try.underlying43 Try.underlying3 (by kernel_rfl) hf with ⟨hcs, _⟩ | ⟨a, len, cap, zs, hcs, _, hl, _, hz, hx, hcell, _⟩
  · have hcs : Value.slice a0 len0 cap0 = .slice none 0 0 := by simpa using hcs
    rw [hcs]
    exact ⟨[], ⟨none, 0, rfl, Nat.le_refl _, fun h => absurd h (by simp [IC])⟩, Nat.zero_le _⟩
  · have hcs : Value.slice a0 len0 cap0 = .slice (some a) len cap := by simpa using hcs
    rw [hcs]
    have hzl : len ≤ zs.length := by
      rw [hz]
      split <;> omega
    have htl : (zs.take len).length = len := by rw [List.length_take]; omega
    have hil : (IC (zs.take len)).length = len := by unfold IC; rw [List.length_map]; exact htl
    refine ⟨zs.take len, ⟨some a, cap, by rw [hil], by rw [hil]; exact hl, fun h0 => ?_⟩, ?_⟩
    · rw [hil] at h0
      obtain ⟨b, off, rfl, hat⟩ := ints_at hcell (by omega)
      refine ⟨b, off, rfl, fun j hj => ?_⟩
      rw [hil] at hj
      rw [hat j (by omega)]
      simp [IC, List.getD, List.getElem?_take_of_lt hj, List.getElem?_eq_getElem (show j < zs.length by omega)]
    · have hd : d = .slice (lits .i64 (zs.take len)) (lits .i64 (zs.drop len)) := congrArg Prod.fst hx
      have := hw (((lits (H := H) .i64 (zs.take len)).length + (lits (H := H) .i64 (zs.drop len)).length) * 8) (by
        rw [hd]
        simp [DataW.weights, Try.underlying43, hB])
      have h2 : (lits (H := H) .i64 (zs.take len)).length = len := by simp [lits]; omega
      rw [h2] at this
      rw [htl]
      omega
end
end Go.Proofs.Ytkkjnembjlgiaaa
