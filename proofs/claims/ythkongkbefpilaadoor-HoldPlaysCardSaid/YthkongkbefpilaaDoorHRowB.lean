/-
  A script that comes in as an argument: what it reads as.
-/
import Derived.Test.YthkongkbefpilaaDoorHRowA
import Derived.Test.YthkongkbefpilaaDoorHe
import Derived.SizedLaws
import Derived.Deep.Slices
namespace Go.Proofs.YthkongkbefpilaaDoor
set_option maxRecDepth 100000
open Go.ChangeShapes Go.WideShapes Go.ChangeAt Go.RowKit Go.Deep

theorem getD_map_range {α : Type} (f : Nat → α) (n j : Nat) (d : α) (h : j < n) : ((List.range n).map f).getD j d = f j := by simp [List.getD, h]
section
variable {H : Type} {enc : TypeId × Value → H} {P : Program} {w : World} {base : Nat} {spare : Nat → Bool} {held : Bool}
theorem bytes_of_ints (zs : List Int) (h : ∀ n ∈ zs, (Lit.int .u8 n).wf = true) : ∃ bs : List UInt8, zs = bs.map by8 := by
  refine ⟨zs.map fun z => UInt8.ofNat z.toNat, ?_⟩
  rw [List.map_map]
  symm
  have e : zs.map (by8 ∘ fun z => UInt8.ofNat z.toNat) = zs.map id := by
    refine List.map_congr_left fun z hz => ?_
    have hw := h z hz
    simp only [Lit.wf, Bool.and_eq_true, decide_eq_true_eq] at hw
    have hmn : IntKind.u8.min = 0 := by decide
    have hmx : IntKind.u8.max = 255 := by decide
    have hb := by8_ofNat z.toNat
    show by8 (UInt8.ofNat z.toNat) = z
    omega
  rw [e, List.map_id]
theorem rb_of_trod2 {t e : TypeId} {fuel : Nat} {v : Value} {x : DataW H × List MemPlace} (ht : P.underlying t = some (.slice e)) (he : P.underlying e = some (.int .u8)) (hc : P.cellsOf e = 1)
    (h : DataW.trod enc P w base spare held fuel t [v] = some x) : ∃ bs, RB w v bs ∧ (bs = [] ∨ ∃ es sp, x.1 = .slice es sp ∧ es.length = bs.length) := by
  rcases open_ints ht he hc h with ⟨hcs, _⟩ | ⟨a, len, cap, zs, hcs, _, hl, hm, hz, hx, hcell, hwz⟩
  · obtain rfl : v = .slice none 0 0 := by simpa using hcs
    exact ⟨[], RB.nil _ _ _, .inl rfl⟩
  · obtain rfl : v = .slice (some a) len cap := by simpa using hcs
    obtain ⟨bs, rfl⟩ := bytes_of_ints zs hwz
    have hzl : len ≤ bs.length := by
      rw [List.length_map] at hz
      rw [hz]
      split <;> omega
    have hbl : (bs.take len).length = len := by rw [List.length_take]; omega
    refine ⟨bs.take len, ⟨some a, cap, by rw [hbl], by rw [hbl]; exact hl, fun h0 => ?_⟩, .inr ⟨_, _, by rw [hx], ?_⟩⟩
    · rw [hbl] at h0
      obtain ⟨b, off, rfl, hat⟩ := ints_at hcell (by rw [List.length_map]; omega)
      refine ⟨b, off, rfl, fun j hj => ?_⟩
      rw [hbl] at hj
      have := hat j (by rw [List.length_map]; omega)
      rw [this]
      congr 2
      simp [List.getD, List.getElem?_take_of_lt hj, List.getElem?_eq_getElem (show j < bs.length by omega)]
    · simp [lits]
theorem weights_all {P : Program} {e : TypeId} : ∀ {l : List (DataW H)} {d : DataW H}, d ∈ l → ∀ n ∈ d.weights P e, n ∈ DataW.weightsAll P e l
  | x :: r, d, h, n, hn => by
    simp only [DataW.weightsAll, List.mem_append]
    rcases List.mem_cons.1 h with rfl | h
    · exact .inl hn
    · exact .inr (weights_all h n hn)
theorem op_parts : ∃ f0 f1 : Field, Tryd.prog.underlying 42 = some (.struct #[f0, f1]) ∧ (f0.type = 3 ∧ f1.type = 26) ∧
    oneCellFields Tryd.prog #[f0, f1] = true :=
  ⟨_, _, Tryd.underlying42, ⟨rfl, rfl⟩, by kernel_rfl⟩
theorem op_of_trod {fuel : Nat} {cs : List Value} {x : DataW H × List MemPlace} (h : DataW.trod enc Tryd.prog w base spare held fuel 42 cs = some x) (hl : cs.length = 2) (hw : ∀ n ∈ x.1.weights Tryd.prog 42, n ≤ reachBytes) :
    ∃ e : OpV, cs = e.cells ∧ e.ok w ∧ e.bs.length ≤ reachBytes := by
  obtain ⟨f0, f1, hs, ⟨t0, t1⟩, hone⟩ := op_parts
  obtain ⟨xs, n, _, hx, _, hlen, hg⟩ := DataW.trod_struct hs h
  obtain ⟨o0, k0⟩ := hone_of hone 0 f0 rfl
  obtain ⟨o1, k1⟩ := hone_of hone 1 f1 rfl
  match cs, hl, xs, hlen with
  | [c0, c1], _, [y0, y1], _ =>
    have g0 := hg 0 f0 rfl
    have g1 := hg 1 f1 rfl
    rw [o0, k0, t0] at g0
    rw [o1, k1, t1] at g1
    obtain ⟨a0, e0, _, _⟩ := DataW.trod_int Tryd.underlying3 g0
    obtain rfl : c0 = .int .i64 a0 := by simpa using e0
    obtain ⟨bs, hb, hbl⟩ := rb_of_trod2 Tryd.underlying26 Tryd.underlying5 (by kernel_rfl) (show DataW.trod enc Tryd.prog w base spare held n 26 [c1] = some y1 from g1)
    obtain ⟨A, c, rfl, hc⟩ := hb.form
    have hb1 : Tryd.prog.bytesOf 5 = 1 := by kernel_rfl
    refine ⟨⟨a0, A, c, bs⟩, rfl, hb, ?_⟩
    show bs.length ≤ reachBytes
    rcases hbl with rfl | ⟨es, sp, hes, hel⟩
    · exact Nat.zero_le _
    · have hd : x.1 = .agg [y0.1, y1.1] := by
        rw [hx]
        rfl
      have := hw ((es.length + sp.length) * 1) (by
        rw [hd]
        simp only [DataW.weights, hs]
        refine DataW.weights_mem_each (j := 1) (t := f1.type) rfl (d := y1.1) rfl _ ?_
        rw [t1, hes]
        simp [DataW.weights, Tryd.underlying26, hb1])
      omega
theorem ops_of_trod {fuel : Nat} {v : Value} {x : DataW H × List MemPlace} (h : DataW.trod enc Tryd.prog w base spare held fuel 31 [v] = some x) (hw : ∀ n ∈ x.1.weights Tryd.prog 31, n ≤ reachBytes) :
    ∃ l, Ops w v l ∧ (∀ j, j < l.length → (l.getD j op0).bs.length ≤ reachBytes) ∧ l.length * 32 ≤ reachBytes := by
  rcases open_slice Tryd.underlying31 h with ⟨hcs, _⟩ | ⟨a, len, cap, m, n, D, Pl, hcs, _, hl, _, hmm, rfl, hat⟩
  · obtain rfl : v = .slice none 0 0 := by simpa using hcs
    exact ⟨[], ⟨none, 0, rfl, Nat.le_refl _, fun h => absurd h (by simp)⟩, fun j hj => absurd hj (by simp), Nat.zero_le _⟩
  · obtain rfl : v = .slice (some a) len cap := by simpa using hcs
    have hlm : len ≤ m := by rw [hmm]; split <;> omega
    have hC : Tryd.prog.cellsOf 42 = 2 := by kernel_rfl
    have hB : Tryd.prog.bytesOf 42 = 32 := by kernel_rfl
    have hwE : ∀ i, i < len → ∀ n ∈ (D i).weights Tryd.prog 42, n ≤ reachBytes := fun i hi n hn => hw n (by
      simp only [DataW.weights, Tryd.underlying31, List.mem_cons, List.mem_append]
      exact .inr (.inl (weights_all (List.mem_map.2 ⟨i, List.mem_range.2 hi, rfl⟩) n hn)))
    have hwL : len * 32 ≤ reachBytes := by
      have := hw ((((List.range len).map D).length + ((List.range (m - len)).map fun j => D (len + j)).length) * 32) (by
        simp only [DataW.weights, Tryd.underlying31, hB, List.mem_cons]
        exact .inl trivial)
      simp only [List.length_map, List.length_range] at this
      omega
    have hin : Inhabited OpV := ⟨op0⟩
    obtain ⟨f, hf⟩ := choose_lt (α := OpV) (n := len) (p := fun i e => (∀ j, j < 2 → w.cell? (a.add (i * 2 + j)) = e.cells[j]?) ∧ e.ok w ∧ e.bs.length ≤ reachBytes) (fun i hi => by
      obtain ⟨cs', hc, ht⟩ := hat i (by omega)
      rw [hC] at hc
      obtain ⟨_, hcl, hcell⟩ := World.cells?_some hc
      obtain ⟨e, rfl, hok, hdl⟩ := op_of_trod ht hcl (hwE i hi)
      refine ⟨e, fun j hj => ?_, hok, hdl⟩
      have := hcell j hj
      rw [add_add] at this
      exact this)
    have hfl : ((List.range len).map f).length = len := by simp
    have hget : ∀ j, j < len → ((List.range len).map f).getD j op0 = f j := fun j hj => getD_map_range f len j op0 hj
    refine ⟨(List.range len).map f, ⟨some a, cap, by rw [hfl], by rw [hfl]; exact hl, fun h0 => ?_⟩, fun j hj => ?_, by rw [hfl]; exact hwL⟩
    · rw [hfl] at h0
      obtain ⟨b, off, spot⟩ := a
      have hspot : spot = none := by
        have := World.cell?_spot ((hf 0 h0).1 0 (by omega))
        simpa [Addr.add] using this
      subst hspot
      refine ⟨b, off, rfl, fun j hj => ?_⟩
      rw [hfl] at hj
      obtain ⟨h1, h2, _⟩ := hf j hj
      rw [hget j hj]
      refine ⟨fun i hi => ?_, h2⟩
      have := h1 i hi
      rw [Go.WideShapes.add_plain] at this
      rw [Nat.add_assoc]
      exact this
    · rw [hfl] at hj
      rw [hget j hj]
      exact (hf j hj).2.2
theorem open_ops {r : Reach} {b0 : Nat} {v : Value} {d : DataW H} {ps : List MemPlace} (hval : Value.okWide Tryd.prog w r b0 31 v) (h : DataW.Trod enc Tryd.prog w base spare held 31 v d ps) (hw : ∀ n ∈ d.weights Tryd.prog 31, n ≤ reachBytes) :
    ∃ l, Ops w v l ∧ (∀ j, j < l.length → (l.getD j op0).bs.length ≤ reachBytes) ∧ l.length * 32 ≤ reachBytes := by
  obtain ⟨a0, len, cap, rfl⟩ := okWide_slice Tryd.underlying31 hval
  obtain ⟨fuel, hf⟩ := h
  exact ops_of_trod hf hw
end
end Go.Proofs.YthkongkbefpilaaDoor
