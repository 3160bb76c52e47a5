/-
  The walk of the reference's Hex.
-/
import Derived.Test.YthkongkbefpilaaDoorDig8
import Derived.Deep.AppendLies
import Derived.Deep.RegionHeld3
namespace Go.Proofs.YthkongkbefpilaaDoor
open Go.RowKit Sha
theorem OB.block {w : World} {base : Nat} {v : Value} {bs : List UInt8} (h : OB w base v bs) : ∀ k, v.ownBlock = some k → base ≤ k ∧ k < w.heap.size := by
  intro k hk
  rcases h.2 with ⟨rfl, _⟩ | ⟨g, cap, cur, rfl, hg, hh, _⟩
  · cases hk
  · obtain rfl : g = k := Option.some.inj hk
    exact ⟨hg, (Array.getElem?_eq_some_iff.1 hh).1⟩
theorem OB.blk {w : World} {base : Nat} {v : Value} {bs : List UInt8} (h : OB w base v bs) : blkOf v = v.ownBlock := by
  rcases h.2 with ⟨rfl, _⟩ | ⟨g, cap, cur, rfl, _⟩ <;> rfl
theorem OB.alloc {w : World} {base : Nat} {v : Value} {bs : List UInt8} (h : OB w base v bs) (o : Obj) : OB (w.alloc o) base v bs := World.ownsRow.alloc h o
theorem OB.drew {w : World} {base : Nat} {v : Value} {bs : List UInt8} (h : OB w base v bs) : OB w.drew base v bs := h
/-- Behind an append, from a world that is 'wr' and more. -/
theorem OB.grew {w wr w1 w2 : World} {base : Nat} {v v2 : Value} {bs c : List UInt8} {n : Nat} (h : OB wr base v bs) (ho : Only Nil w wr) (h1 : Only Nil wr w1) (hb : w.heap.size ≤ base) (hn : (bs ++ c).length = n)
    (h2 : w2.ownsRow base 5 1 v2 n (BC bs ++ BC c)) (hg : w1.grownBy w2 v.ownBlock) : OB w2 base v2 (bs ++ c) ∧ Only Nil w w2 ∧ (∀ k t cs, k < base → Blk wr k t cs → Blk w2 k t cs) := by
  subst hn
  have hS : ∀ k, v.ownBlock = some k → base ≤ k := fun k hk => (h.block k hk).1
  refine ⟨?_, (ho.then h1).trans (Only.of_grown (S := fun k => base ≤ k) hg fun k hk => .inl (hS k hk)) fun i hi => .inr (Nat.le_trans hb hi), fun k t cs hk hB => ?_⟩
  · unfold OB
    rw [BC_append]
    exact h2
  · exact (Only.of_grown (S := fun k => base ≤ k) hg fun k hk => .inl (hS k hk)).blk (h1.blk hB id) (by omega)
def RHex (w : World) (d : List UInt8) (k : Nat) (v : Value) (wr : World) : Prop :=
  OB wr (w.heap.size + 1) v (hex (d.take k)) ∧ Only Nil w wr ∧ Blk wr w.heap.size 23 (BC d)
end Go.Proofs.YthkongkbefpilaaDoor
