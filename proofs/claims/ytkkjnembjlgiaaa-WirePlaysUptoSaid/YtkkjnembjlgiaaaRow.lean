/-
  What the rows' proofs of this seat share: a call that leaves all old memory as it was; an array of bytes that comes in.
-/
import Derived.Test.YtkkjnembjlgiaaaRows
import Derived.Test.YtkkjnembjlgiaaaKit
import Derived.ProofKit
import Derived.OpenShut
import Derived.Carry
import Derived.Deep.Slices
import Derived.Deep.Fields
import Derived.ChangeSame
import Derived.JoinedCond
namespace Go.Proofs.Ytkkjnembjlgiaaa
open Go.ChangeShapes Go.WideShapes Go.ChangeAt Go.RowKit

theorem Try.own : ownKnob Try.prog.godebug = none := by kernel_rfl
theorem Try.laidOut : laidOutB Try.prog = true := by kernel_rfl
theorem kept_of_only {W W' : World} (h : Only Nil W W') (may : MemPlace → Prop) : W.keptBut W' may := (h.below (Nat.le_refl _) (fun _ h => h.elim)).frame may
section
variable {H : Type} {enc : TypeId × Value → H} {P : Program} {W W' : World}
/-- Arguments that nobody wrote read as they read. -/
theorem trodAll_stays (hl : laidOutB P = true) (hb : Below W.heap.size W W') : ∀ {ts : List TypeId} {vs : List Value} {ds : List (DataW H)} {ps : List MemPlace}, (ts.all fun t => P.readableRec t && decide (t < P.types.size)) = true →
    DataW.TrodAll enc P W 0 (fun _ => true) true ts vs ds ps → (∀ x ∈ ps, x.block < W.heap.size) → DataW.TrodAll enc P W' 0 (fun b => decide (b < W.heap.size)) true ts vs ds ps
  | [], vs, ds, ps, _, h, _ => by
    obtain ⟨rfl, rfl, rfl⟩ := trodAll_nil h
    exact trodAll_mk0
  | t :: ts, vs, ds, ps, ht, h, hlt => by
    obtain ⟨v, vs1, d, ds1, a, b, rfl, rfl, rfl, h1, h2⟩ := trodAll_cons h
    simp only [List.all_cons, Bool.and_eq_true, decide_eq_true_eq] at ht
    exact trodAll_cons_mk (h1 |> fun h => Below.trod hl ht.1.1 ht.1.2 h hb fun x hx => hlt x (List.mem_append_left _ hx)) (trodAll_stays hl hb ht.2 h2 fun x hx => hlt x (List.mem_append_right _ hx))
/-- An array of n bytes, by value. -/
theorem open_bytes {r : Reach} {b0 base : Nat} {sp : Nat → Bool} {hd : Bool} {t e : TypeId} {n : Nat} {v : Value} {d : DataW H} {ps : List MemPlace} (ht : P.underlying t = some (.array n e)) (he : P.underlying e = some (.int .u8)) (hc : P.cellsOf e = 1) (hn : P.cellsOf t = n)
    (hval : Value.okWide P W r b0 t v) (h : DataW.Trod enc P W base sp hd t v d ps) : ∃ bs : List UInt8, v = .agg (BC bs).toArray ∧ bs.length = n := by
  simp only [Value.okWide, ht] at hval
  obtain ⟨cs, rfl, hs, _⟩ := hval
  obtain ⟨fuel, hf⟩ := h
  obtain ⟨xs, m, rfl, _, hl, hxl, hall⟩ := DataW.trod_array ht hf
  have hcl : cs.toList.length = n := by simpa [hn] using hs
  have key : ∀ i (hi : i < cs.toList.length), ∃ c : UInt8, cs.toList[i] = .int .u8 (by8 c) := by
    intro i hi
    have h1 := hall i (by omega)
    rw [hc, Nat.mul_one, List.getElem?_eq_getElem (show i < xs.length by omega)] at h1
    obtain ⟨a, ea, _, wa⟩ := DataW.trod_int he h1
    have e2 : cs.toList[i] = .int .u8 a := by
      have : ((cs.toList.drop i).take 1)[0]? = some (Value.int .u8 a) := by
        show ((Value.cells (.agg cs)).toList.drop i |>.take 1)[0]? = _
        rw [ea]
        rfl
      rw [List.getElem?_take_of_lt (by decide), List.getElem?_drop, Nat.add_zero, List.getElem?_eq_getElem hi] at this
      exact Option.some.inj this
    simp only [Lit.wf, Bool.and_eq_true, decide_eq_true_eq] at wa
    have hmn : IntKind.u8.min = 0 := by decide
    have hmx : IntKind.u8.max = 255 := by decide
    refine ⟨UInt8.ofNat a.toNat, ?_⟩
    rw [e2, by8_ofNat]
    congr 1
    omega
  refine ⟨cs.toList.map fun v => match v with | .int _ x => UInt8.ofNat x.toNat | _ => 0, ?_, by rw [List.length_map]; exact hcl⟩
  congr 1
  apply Array.ext'
  apply List.ext_getElem (by simp [BC_length])
  intro i h1 h2
  obtain ⟨c, hcc⟩ := key i h1
  simp only [BC, List.getElem_map, hcc]
  congr 1
  unfold by8
  congr 1
  have := c.toNat_lt
  rw [Int.toNat_natCast]
  simp
end
section
variable {H : Type} {enc : TypeId × Value → H} {P : Program} {w : World} {base : Nat} {spare : Nat → Bool} {held : Bool}
theorem bytes_of_ints (zs : List Int) (h : ∀ n ∈ zs, (Lit.int .u8 n).wf = true) : ∃ bs : List UInt8, zs = bs.map by8 := by
  refine ⟨zs.map fun z => UInt8.ofNat z.toNat, ?_⟩
  rw [List.map_map]
  symm
  have e : zs.map (by8 ∘ fun z => UInt8.ofNat z.toNat) = zs.map id := by
    refine List.map_congr_left fun z hz => ?_
    have hw := h z hz
    simp only [Lit.wf, Bool.and_eq_true, decide_eq_true_eq] at hw
    have hmn : IntKind.u8.min = 0 := by decide
    have hmx : IntKind.u8.max = 255 := by decide
    have hb := by8_ofNat z.toNat
    show by8 (UInt8.ofNat z.toNat) = z
    omega
  rw [e, List.map_id]
/-- A slice of bytes that is read reads as bytes. -/
theorem rb_of_trod {t e : TypeId} {fuel : Nat} {v : Value} {x : DataW H × List MemPlace} (ht : P.underlying t = some (.slice e)) (he : P.underlying e = some (.int .u8)) (hc : P.cellsOf e = 1)
    (h : DataW.trod enc P w base spare held fuel t [v] = some x) : ∃ bs, RB w v bs ∧ bs.length ≤ maxLen := by
  rcases open_ints ht he hc h with ⟨hcs, _⟩ | ⟨a, len, cap, zs, hcs, _, hl, hm, hz, _, hcell, hwz⟩
  · obtain rfl : v = .slice none 0 0 := by simpa using hcs
    exact ⟨[], RB.nil _ _ _, Nat.zero_le _⟩
  · obtain rfl : v = .slice (some a) len cap := by simpa using hcs
    obtain ⟨bs, rfl⟩ := bytes_of_ints zs hwz
    have hzl : len ≤ bs.length := by
      rw [List.length_map] at hz
      rw [hz]
      split <;> omega
    have hbl : (bs.take len).length = len := by rw [List.length_take]; omega
    refine ⟨bs.take len, ⟨some a, cap, by rw [hbl], by rw [hbl]; exact hl, fun h0 => ?_⟩, by omega⟩
    rw [hbl] at h0
    obtain ⟨b, off, rfl, hat⟩ := ints_at hcell (by rw [List.length_map]; omega)
    refine ⟨b, off, rfl, fun j hj => ?_⟩
    rw [hbl] at hj
    have := hat j (by rw [List.length_map]; omega)
    rw [this]
    congr 2
    simp [List.getD, List.getElem?_take_of_lt hj, List.getElem?_eq_getElem (show j < bs.length by omega)]
theorem open_rb {r : Reach} {b0 : Nat} {t e : TypeId} {v : Value} {d : DataW H} {ps : List MemPlace} (ht : P.underlying t = some (.slice e)) (he : P.underlying e = some (.int .u8)) (hc : P.cellsOf e = 1)
    (hval : Value.okWide P w r b0 t v) (h : DataW.Trod enc P w base spare held t v d ps) : ∃ bs, RB w v bs ∧ bs.length ≤ maxLen := by
  obtain ⟨a0, len, cap, rfl⟩ := okWide_slice ht hval
  obtain ⟨fuel, hf⟩ := h
  exact rb_of_trod ht he hc hf
/-- How many elements a reading has. -/
def dlen : DataW H → Nat
  | .slice elems _ => elems.length
  | _ => 0
/-- A slice of slices of bytes. -/
theorem parts_of_trod {t s e : TypeId} {fuel : Nat} {v : Value} {x : DataW H × List MemPlace} (ht : P.underlying t = some (.slice s)) (hs : P.underlying s = some (.slice e)) (he : P.underlying e = some (.int .u8)) (hc : P.cellsOf e = 1) (hcs : P.cellsOf s = 1)
    (h : DataW.trod enc P w base spare held fuel t [v] = some x) : ∃ vs ps, Parts w v vs ps ∧ vs.length ≤ dlen x.1 := by
  rcases Go.Deep.open_slice1 ht hcs h with ⟨hcs, _⟩ | ⟨a, len, cap, m, n, V, D, Pl, hcs, _, hl, _, hmm, rfl, hat⟩
  · obtain rfl : v = .slice none 0 0 := by simpa using hcs
    exact ⟨[], [], parts_nil _ _ _, Nat.zero_le _⟩
  · obtain rfl : v = .slice (some a) len cap := by simpa using hcs
    have hlm : len ≤ m := by rw [hmm]; split <;> omega
    obtain ⟨B, hB⟩ := Go.Deep.choose_lt (α := List UInt8) (n := len) (p := fun i bs => RB w (V i) bs) (fun i hi => by
      obtain ⟨bs, hb, _⟩ := rb_of_trod hs he hc (hat i (by omega)).2
      exact ⟨bs, hb⟩)
    have hVl : ((List.range len).map V).length = len := by simp
    have hBl : ((List.range len).map B).length = len := by simp
    refine ⟨(List.range len).map V, (List.range len).map B, ⟨⟨some a, cap, by rw [hVl], by rw [hVl]; exact hl, fun h0 => ?_⟩, by rw [hVl, hBl], fun j hj => ?_⟩, by rw [hVl]; simp [dlen]⟩
    · rw [hVl] at h0
      obtain ⟨b, off, spot⟩ := a
      have hspot : spot = none := by
        have := World.cell?_spot (hat 0 (by omega)).1
        simpa [Addr.add] using this
      subst hspot
      refine ⟨b, off, rfl, fun j hj => ?_⟩
      rw [hVl] at hj
      have := (hat j (by omega)).1
      rw [Go.WideShapes.add_plain] at this
      rw [this]
      simp [List.getD, hj]
    · rw [hBl] at hj
      have := hB j hj
      simpa [List.getD, hj] using this
theorem open_parts {r : Reach} {b0 : Nat} {t s e : TypeId} {v : Value} {d : DataW H} {ps : List MemPlace} (ht : P.underlying t = some (.slice s)) (hs : P.underlying s = some (.slice e)) (he : P.underlying e = some (.int .u8)) (hc : P.cellsOf e = 1) (hcs : P.cellsOf s = 1)
    (hval : Value.okWide P w r b0 t v) (h : DataW.Trod enc P w base spare held t v d ps) : ∃ vs ps, Parts w v vs ps ∧ vs.length ≤ dlen d := by
  obtain ⟨a0, len, cap, rfl⟩ := okWide_slice ht hval
  obtain ⟨fuel, hf⟩ := h
  exact parts_of_trod ht hs he hc hcs hf
end
end Go.Proofs.Ytkkjnembjlgiaaa
