/-
  What the rows' proofs of this seat share: a call that leaves all old memory as it was.
-/
import Derived.Test.YthkongkbefpilaaRows
import Derived.Test.YthkongkbefpilaaDig17
import Derived.ProofKit
namespace Go.Proofs.Ythkongkbefpilaa
open Go.ChangeShapes Go.WideShapes Go.ChangeAt Go.RowKit Sha

theorem Try.own : ownKnob Try.prog.godebug = none := by kernel_rfl
theorem kept_of_only {W W' : World} (h : Only Nil W W') (may : MemPlace → Prop) : W.keptBut W' may := (h.below (Nat.le_refl _) (fun _ h => h.elim)).frame may
end Go.Proofs.Ythkongkbefpilaa
