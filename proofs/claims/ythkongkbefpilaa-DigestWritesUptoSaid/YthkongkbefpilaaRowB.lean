/-
  A slice of bytes, a slice of slices of bytes that come in as arguments: what they read as.
-/
import Derived.Test.YthkongkbefpilaaRowA
import Derived.Deep.Slices
namespace Go.Proofs.Ythkongkbefpilaa
open Go.ChangeShapes Go.WideShapes Go.ChangeAt Go.RowKit Sha

section
variable {H : Type} {enc : TypeId × Value → H} {P : Program} {w : World} {base : Nat} {spare : Nat → Bool} {held : Bool}
theorem bytes_of_ints (zs : List Int) (h : ∀ n ∈ zs, (Lit.int .u8 n).wf = true) : ∃ bs : List UInt8, zs = bs.map by8 := by
  refine ⟨zs.map fun z => UInt8.ofNat z.toNat, ?_⟩
  rw [List.map_map]
  symm
  have e : zs.map (by8 ∘ fun z => UInt8.ofNat z.toNat) = zs.map id := by
    refine List.map_congr_left fun z hz => ?_
    have hw := h z hz
    simp only [Lit.wf, Bool.and_eq_true, decide_eq_true_eq] at hw
    have hmn : IntKind.u8.min = 0 := by decide
    have hmx : IntKind.u8.max = 255 := by decide
    have hb := by8_ofNat z.toNat
    show by8 (UInt8.ofNat z.toNat) = z
    omega
  rw [e, List.map_id]
/-- A slice of bytes that is read reads as bytes. -/
theorem rb_of_trod {t e : TypeId} {fuel : Nat} {v : Value} {x : DataW H × List MemPlace} (ht : P.underlying t = some (.slice e)) (he : P.underlying e = some (.int .u8)) (hc : P.cellsOf e = 1)
    (h : DataW.trod enc P w base spare held fuel t [v] = some x) : ∃ bs, RB w v bs ∧ bs.length ≤ maxLen := by
  rcases open_ints ht he hc h with ⟨hcs, _⟩ | ⟨a, len, cap, zs, hcs, _, hl, hm, hz, _, hcell, hwz⟩
  · obtain rfl : v = .slice none 0 0 := by simpa using hcs
    exact ⟨[], RB.nil _ _ _, Nat.zero_le _⟩
  · obtain rfl : v = .slice (some a) len cap := by simpa using hcs
    obtain ⟨bs, rfl⟩ := bytes_of_ints zs hwz
    have hzl : len ≤ bs.length := by
      rw [List.length_map] at hz
      rw [hz]
      split <;> omega
    have hbl : (bs.take len).length = len := by rw [List.length_take]; omega
    refine ⟨bs.take len, ⟨some a, cap, by rw [hbl], by rw [hbl]; exact hl, fun h0 => ?_⟩, by omega⟩
    rw [hbl] at h0
    obtain ⟨b, off, rfl, hat⟩ := ints_at hcell (by rw [List.length_map]; omega)
    refine ⟨b, off, rfl, fun j hj => ?_⟩
    rw [hbl] at hj
    have := hat j (by rw [List.length_map]; omega)
    rw [this]
    congr 2
    simp [List.getD, List.getElem?_take_of_lt hj, List.getElem?_eq_getElem (show j < bs.length by omega)]
theorem open_rb {r : Reach} {b0 : Nat} {t e : TypeId} {v : Value} {d : DataW H} {ps : List MemPlace} (ht : P.underlying t = some (.slice e)) (he : P.underlying e = some (.int .u8)) (hc : P.cellsOf e = 1)
    (hval : Value.okWide P w r b0 t v) (h : DataW.Trod enc P w base spare held t v d ps) : ∃ bs, RB w v bs ∧ bs.length ≤ maxLen := by
  obtain ⟨a0, len, cap, rfl⟩ := okWide_slice ht hval
  obtain ⟨fuel, hf⟩ := h
  exact rb_of_trod ht he hc hf
/-- How many elements a reading has. -/
def dlen : DataW H → Nat
  | .slice elems _ => elems.length
  | _ => 0
/-- A slice of slices of bytes. -/
theorem parts_of_trod {t s e : TypeId} {fuel : Nat} {v : Value} {x : DataW H × List MemPlace} (ht : P.underlying t = some (.slice s)) (hs : P.underlying s = some (.slice e)) (he : P.underlying e = some (.int .u8)) (hc : P.cellsOf e = 1) (hcs : P.cellsOf s = 1)
    (h : DataW.trod enc P w base spare held fuel t [v] = some x) : ∃ vs ps, Parts w v vs ps ∧ vs.length ≤ dlen x.1 := by
  rcases Go.Deep.open_slice1 ht hcs h with ⟨hcs, _⟩ | ⟨a, len, cap, m, n, V, D, Pl, hcs, _, hl, _, hmm, rfl, hat⟩
  · obtain rfl : v = .slice none 0 0 := by simpa using hcs
    exact ⟨[], [], parts_nil _ _ _, Nat.zero_le _⟩
  · obtain rfl : v = .slice (some a) len cap := by simpa using hcs
    have hlm : len ≤ m := by rw [hmm]; split <;> omega
    obtain ⟨B, hB⟩ := Go.Deep.choose_lt (α := List UInt8) (n := len) (p := fun i bs => RB w (V i) bs) (fun i hi => by
      obtain ⟨bs, hb, _⟩ := rb_of_trod hs he hc (hat i (by omega)).2
      exact ⟨bs, hb⟩)
    have hVl : ((List.range len).map V).length = len := by simp
    have hBl : ((List.range len).map B).length = len := by simp
    refine ⟨(List.range len).map V, (List.range len).map B, ⟨⟨some a, cap, by rw [hVl], by rw [hVl]; exact hl, fun h0 => ?_⟩, by rw [hVl, hBl], fun j hj => ?_⟩, by rw [hVl]; simp [dlen]⟩
    · rw [hVl] at h0
      obtain ⟨b, off, spot⟩ := a
      have hspot : spot = none := by
        have := World.cell?_spot (hat 0 (by omega)).1
        simpa [Addr.add] using this
      subst hspot
      refine ⟨b, off, rfl, fun j hj => ?_⟩
      rw [hVl] at hj
      have := (hat j (by omega)).1
      rw [Go.WideShapes.add_plain] at this
      rw [this]
      simp [List.getD, hj]
    · rw [hBl] at hj
      have := hB j hj
      simpa [List.getD, hj] using this
theorem open_parts {r : Reach} {b0 : Nat} {t s e : TypeId} {v : Value} {d : DataW H} {ps : List MemPlace} (ht : P.underlying t = some (.slice s)) (hs : P.underlying s = some (.slice e)) (he : P.underlying e = some (.int .u8)) (hc : P.cellsOf e = 1) (hcs : P.cellsOf s = 1)
    (hval : Value.okWide P w r b0 t v) (h : DataW.Trod enc P w base spare held t v d ps) : ∃ vs ps, Parts w v vs ps ∧ vs.length ≤ dlen d := by
  obtain ⟨a0, len, cap, rfl⟩ := okWide_slice ht hval
  obtain ⟨fuel, hf⟩ := h
  exact parts_of_trod ht hs he hc hcs hf
end
end Go.Proofs.Ythkongkbefpilaa
