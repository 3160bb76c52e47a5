/-
  Slices of slices of bytes; the walk of digest.Sum.
-/
import Derived.Test.YthkongkbefpilaaDoorDig5
namespace Go.Proofs.YthkongkbefpilaaDoor
open Go.RowKit Sha
theorem RB.block {w : World} {v : Value} {bs : List UInt8} (h : RB w v bs) (h0 : 0 < bs.length) : ∃ g, blkOf v = some g ∧ g < w.heap.size := by
  obtain ⟨A, c, rfl, _, h⟩ := h
  obtain ⟨g, o, rfl, hr⟩ := h h0
  exact ⟨g, rfl, World.block_lt_of_cell? w _ (hr 0 h0)⟩
theorem RB.ne {w : World} {v : Value} {bs : List UInt8} (h : RB w v bs) (h0 : 0 < bs.length) {g : Nat} (hg : w.heap.size ≤ g) : blkOf v ≠ some g := by
  obtain ⟨g', e, hlt⟩ := h.block h0
  rw [e]
  simp
  omega
/-- Write, of no bytes too. -/
theorem write_ok (g : Nat) (m bs : List UInt8) (v : Value) (w : World) (hH : HashAt w g m) (hv : RB w v bs) (hd : 0 < bs.length → blkOf v ≠ some g) (hlen : m.length + bs.length ≤ 1000000000000000000) :
    Calls Tryd.prog 44 #[.pointer (some ⟨g, 0, none⟩), v] w fun e w' => e = .returned (.tuple #[]) ∧ HashAt w' g (m ++ bs) ∧ Only (One g) w w' := by
  by_cases h0 : 0 < bs.length
  · exact write_any g m bs v w hH hv (hd h0) hlen
  · obtain rfl : bs = [] := List.eq_nil_of_length_eq_zero (by omega)
    obtain ⟨A, c, rfl, hc⟩ := hv.form
    have HH := Lib.hid hH
    clear hv hd hH hlen h0 hc
    go_enter Tryd.func44, Tryd.ntmps44
    go_wp2
    go_loopw [1] (fun v wr => v = .slice A 0 c ∧ wr = w) (fun _ _ => 0)
    case atStart => exact ⟨rfl, rfl⟩
    case round =>
      obtain ⟨rfl, rfl⟩ := hrel
      go_wp2
      go_end0
      exact ⟨rfl, by rw [List.append_nil]; exact HH.out, Only.refl _ _⟩
/-- 'v' is a slice that reads as the values vs. -/
def RV (w : World) (v : Value) (vs : List Value) : Prop :=
  ∃ (A : Option Addr) (c : Nat), v = .slice A vs.length c ∧ vs.length ≤ c ∧ (0 < vs.length → ∃ g o, A = some ⟨g, o, none⟩ ∧ ∀ j, j < vs.length → w.cell? ⟨g, o + j, none⟩ = some (vs.getD j undef))
/-- A slice of slices of bytes. -/
structure Parts (w : World) (v : Value) (vs : List Value) (ps : List (List UInt8)) : Prop where
  row : RV w v vs
  len : vs.length = ps.length
  each : ∀ j, j < ps.length → RB w (vs.getD j undef) (ps.getD j [])
theorem RV.only {w w' : World} {v : Value} {vs : List Value} {S : Nat → Prop} (h : RV w v vs) (ho : Only S w w') (hS : ∀ g, g < w.heap.size → blkOf v = some g → ¬ S g) : RV w' v vs := by
  obtain ⟨A, c, rfl, hc, h⟩ := h
  refine ⟨A, c, rfl, hc, fun h0 => ?_⟩
  obtain ⟨g, o, rfl, hr⟩ := h h0
  exact ⟨g, o, rfl, fun j hj => ho.cell (hr j hj) (hS g (World.block_lt_of_cell? w _ (hr j hj)) rfl)⟩
/-- What stays readable while nothing old is written. -/
theorem Parts.only {w w' : World} {v : Value} {vs : List Value} {ps : List (List UInt8)} (h : Parts w v vs ps) (ho : Only Nil w w') : Parts w' v vs ps :=
  ⟨h.row.only ho fun _ _ _ => id, h.len, fun j hj => (h.each j hj).only ho fun _ _ => id⟩
theorem flat_succ (ps : List (List UInt8)) (k : Nat) (h : k < ps.length) : (ps.take (k + 1)).flatten = (ps.take k).flatten ++ ps.getD k [] := by
  rw [List.take_add_one, List.flatten_append]
  simp [List.getD, h]
theorem flat_le (ps : List (List UInt8)) (k : Nat) : (ps.take k).flatten.length ≤ ps.flatten.length := by
  have := congrArg (fun l : List (List UInt8) => l.flatten.length) (List.take_append_drop k ps)
  simp only [List.flatten_append, List.length_append] at this
  omega
/-- While the parts are written. -/
def PartsAt (w : World) (k : Nat) (ps : List (List UInt8)) (wr : World) : Prop :=
  HashAt wr (w.heap.size + 1) (ps.take k).flatten ∧ Only Nil w wr ∧ Blk wr w.heap.size 23 (BC (List.replicate 32 0))
theorem PartsAt.start (w : World) (ps : List (List UInt8)) : PartsAt w 0 ps ((w.alloc (.cells (BC (List.replicate 32 0)).toArray 23)).alloc (.cells (HC Sha.start (List.replicate 64 0) 0).toArray 75)) := by
  refine ⟨?_, ((Only.refl _ _).alloc _).alloc _, (Blk.new w _ _).alloc _⟩
  have := HashAt.new (w.alloc (.cells (BC (List.replicate 32 0)).toArray 23))
  rw [World.size_alloc] at this
  exact this
end Go.Proofs.YthkongkbefpilaaDoor
