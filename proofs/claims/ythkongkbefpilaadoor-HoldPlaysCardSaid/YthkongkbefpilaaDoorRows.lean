/-
  NARROWER THAN 'FOR EVERY INPUT', by the rows' own cells (each row's printed sentence says how): HoldNumbers: laid · HoldMakes: laid · HoldPlays: laid · HoldNever: laid.
  DERIVED. THE GIVEN ROWS OF THIS SEAT. 4 by the template 'for every input the law returns true; each argument reads behind the call as it read before'; 0 by the template 'total and deterministic' (their statements: YthkongkbefpilaaDoorTotals.lean).
  GIVEN WITH THE SEED: the statements are not yours to turn. If you find one false, say at which input.
  Laid BY PROGRAM, IN A SANDBOX (cutbox-rows.mjs): the forced cells as the released guide's own fill.sh prints them over the translation 415dd59d4dde10ad… (all of the seat's roots in one cut). By AI agents, Wed Nov 11 2026. No macro, syntax, notation, axiom, sorry.
-/
import Derived.Test.YthkongkbefpilaaDoorChecked
import GoSem.Claim
import GoSem.ClaimJoined
import GoSem.ClaimMapViews
import Derived.JoinedTies
import Derived.KernelRfl
namespace Go.Proofs.YthkongkbefpilaaDoor
/- THE CELL 'sum', in the pinned program and in every row, IS THE sha256 OF THE DUMP (.gsa) THAT YthkongkbefpilaaDoorProg.lean LOADS. Nothing in Lean hashes anything: it is a label: what it is worth is what the hold of that sum in a sandbox is worth. -/
noncomputable def Tryd.pinned : Pinned := { name := "ythkongkbefpilaadoor", sum := "415dd59d4dde10ad6b51a0ddb14f8220faad0ac7aee8347a74eb82c2eda9e49e", checked := Tryd.checked }
namespace Rows
def none {H : Type} : Left H := { results := [], args := [] }

/- WHAT THE LISTED PACKAGE-LEVEL VARIABLES READ AS WHEN THE CALL BEGINS. Each datum BY PROGRAM (the guide's laid-datum.mjs) off the statement by which the dump's own 'gosem.cut.vars' lays the variable. In a bare row this is a premise. The card (YthkongkbefpilaaDoorCards.lean) ties it to the program's text. -/
def laid_slipway_hold_errFull {H : Type} : DataW H := .iface "*errors.errorString" (.ptr (.agg [.lit (.string [104, 111, 108, 100, 58, 32, 110, 111, 32, 114, 111, 111, 109])]))
def laid_slipway_hold_errSealed {H : Type} : DataW H := .iface "*errors.errorString" (.ptr (.agg [.lit (.string [104, 111, 108, 100, 58, 32, 115, 101, 97, 108, 101, 100])]))

/-- 'slipwaylaw19.HoldNumbers': WHATEVER THE INPUT: true; the input reads as it did. -/
def holdNumbersSpec : ChangeSpec := { name := "holdNumbers", fn := fun _ => fun
  | [] => { results := [.lit (.bool true)], args := [] }
  | _ => none }
def holdNumbersRow : OpenClaim := { program := "ythkongkbefpilaadoor", sum := "415dd59d4dde10ad6b51a0ddb14f8220faad0ac7aee8347a74eb82c2eda9e49e", func := "slipway/slipwaylaw19.HoldNumbers", spec := "holdNumbers", inPlace := ["internal/reflectlite.TypeOf"], unfollowed := true, recurses := true, named := ["slipway/hold.errFull", "slipway/hold.errSealed"], apart := false, laid := [("slipway/hold.errFull", laid_slipway_hold_errFull), ("slipway/hold.errSealed", laid_slipway_hold_errSealed)] }
def HoldNumbersSaid : Prop := holdNumbersRow.holds Tryd.pinned (OpenSpec.ofChange holdNumbersSpec)

/-- ITS FALSE NEIGHBOUR: 'it returns false'. Refute it at one input. -/
def holdNumbersWrong : ChangeSpec := { name := "holdNumbers", fn := fun _ => fun
  | [] => { results := [.lit (.bool false)], args := [] }
  | _ => none }
def HoldNumbersWrongFalsely : Prop := holdNumbersRow.holds Tryd.pinned (OpenSpec.ofChange holdNumbersWrong)

/-- 'slipwaylaw19.HoldMakes': WHATEVER THE INPUT: true; the input reads as it did. -/
def holdMakesSpec : ChangeSpec := { name := "holdMakes", fn := fun _ => fun
  | [d1, d2] => { results := [.lit (.bool true)], args := [d1, d2] }
  | _ => none }
def holdMakesRow : OpenClaim := { program := "ythkongkbefpilaadoor", sum := "415dd59d4dde10ad6b51a0ddb14f8220faad0ac7aee8347a74eb82c2eda9e49e", func := "slipway/slipwaylaw19.HoldMakes", spec := "holdMakes", inPlace := ["internal/reflectlite.TypeOf"], unfollowed := true, recurses := true, named := ["slipway/hold.errFull", "slipway/hold.errSealed"], apart := false, laid := [("slipway/hold.errFull", laid_slipway_hold_errFull), ("slipway/hold.errSealed", laid_slipway_hold_errSealed)] }
def HoldMakesSaid : Prop := holdMakesRow.holds Tryd.pinned (OpenSpec.ofChange holdMakesSpec)

/-- ITS FALSE NEIGHBOUR: 'it returns false'. Refute it at one input. -/
def holdMakesWrong : ChangeSpec := { name := "holdMakes", fn := fun _ => fun
  | [d1, d2] => { results := [.lit (.bool false)], args := [d1, d2] }
  | _ => none }
def HoldMakesWrongFalsely : Prop := holdMakesRow.holds Tryd.pinned (OpenSpec.ofChange holdMakesWrong)

/-- 'slipwaylaw19.HoldPlays': WHATEVER THE INPUT: true; the input reads as it did. -/
def holdPlaysSpec : ChangeSpec := { name := "holdPlays", fn := fun _ => fun
  | [d1, d2, d3, d4, d5] => { results := [.lit (.bool true)], args := [d1, d2, d3, d4, d5] }
  | _ => none }
def holdPlaysRow : OpenClaim := { program := "ythkongkbefpilaadoor", sum := "415dd59d4dde10ad6b51a0ddb14f8220faad0ac7aee8347a74eb82c2eda9e49e", func := "slipway/slipwaylaw19.HoldPlays", spec := "holdPlays", inPlace := ["internal/reflectlite.TypeOf"], unfollowed := true, recurses := true, named := ["slipway/hold.errFull", "slipway/hold.errSealed"], apart := false, laid := [("slipway/hold.errFull", laid_slipway_hold_errFull), ("slipway/hold.errSealed", laid_slipway_hold_errSealed)] }
def HoldPlaysSaid : Prop := holdPlaysRow.holds Tryd.pinned (OpenSpec.ofChange holdPlaysSpec)

/-- ITS FALSE NEIGHBOUR: 'it returns false'. Refute it at one input. -/
def holdPlaysWrong : ChangeSpec := { name := "holdPlays", fn := fun _ => fun
  | [d1, d2, d3, d4, d5] => { results := [.lit (.bool false)], args := [d1, d2, d3, d4, d5] }
  | _ => none }
def HoldPlaysWrongFalsely : Prop := holdPlaysRow.holds Tryd.pinned (OpenSpec.ofChange holdPlaysWrong)

/-- 'slipwaylaw19.HoldNever': WHATEVER THE INPUT: true; the input reads as it did. -/
def holdNeverSpec : ChangeSpec := { name := "holdNever", fn := fun _ => fun
  | [d1, d2, d3] => { results := [.lit (.bool true)], args := [d1, d2, d3] }
  | _ => none }
def holdNeverRow : OpenClaim := { program := "ythkongkbefpilaadoor", sum := "415dd59d4dde10ad6b51a0ddb14f8220faad0ac7aee8347a74eb82c2eda9e49e", func := "slipway/slipwaylaw19.HoldNever", spec := "holdNever", inPlace := ["internal/reflectlite.TypeOf"], unfollowed := true, recurses := true, named := ["slipway/hold.errFull", "slipway/hold.errSealed"], apart := false, laid := [("slipway/hold.errFull", laid_slipway_hold_errFull), ("slipway/hold.errSealed", laid_slipway_hold_errSealed)] }
def HoldNeverSaid : Prop := holdNeverRow.holds Tryd.pinned (OpenSpec.ofChange holdNeverSpec)

/-- ITS FALSE NEIGHBOUR: 'it returns false'. Refute it at one input. -/
def holdNeverWrong : ChangeSpec := { name := "holdNever", fn := fun _ => fun
  | [d1, d2, d3] => { results := [.lit (.bool false)], args := [d1, d2, d3] }
  | _ => none }
def HoldNeverWrongFalsely : Prop := holdNeverRow.holds Tryd.pinned (OpenSpec.ofChange holdNeverWrong)

/- THE SECOND FORM. 'bulk': how many values and letters a reading holds, each counted each time it is reached (what is shared counts as often as it is met; a slice's spare places count too). A statement '..UptoSaid' is the law's where the arguments, and the package variables that the reading takes, are together of bulk at most 1048576: NARROWER than '..Said'. Prove '..Said' where nothing that the law and all that it calls make is longer than what came in: it says more and counts as full. Else prove '..UptoSaid'. A law counts once. -/
mutual
def uptoBulk {H : Type} : DataW H → Nat
  | .lit (.string bytes) => bytes.length + 1
  | .lit _ => 1
  | .nil => 1
  | .ptr d => uptoBulk d + 1
  | .slice elems spare => uptoBulkAll elems + uptoBulkAll spare + 1
  | .agg parts => uptoBulkAll parts + 1
  | .iface _ d => uptoBulk d + 1
  | .map entries => uptoBulkEntries entries + 1
  | .held _ => 1
def uptoBulkAll {H : Type} : List (DataW H) → Nat
  | [] => 0
  | d :: r => uptoBulk d + uptoBulkAll r
def uptoBulkEntries {H : Type} : List (Lit × DataW H) → Nat
  | [] => 0
  | x :: r => uptoBulkEntry x + uptoBulkEntries r
def uptoBulkEntry {H : Type} : Lit × DataW H → Nat
  | (.string bytes, d) => bytes.length + uptoBulk d + 1
  | (_, d) => uptoBulk d + 1
 end
def uptoSmall : (H : Type) → List (DataW H) → Bool := fun _ ds => decide (uptoBulkAll ds ≤ 1048576)
def OpenSpec.upto (s : _root_.Go.ChangeSpec) : _root_.Go.OpenSpec := { _root_.Go.OpenSpec.ofChange s with cond := some uptoSmall }

/-- 'slipwaylaw19.HoldNumbers', WHERE WHAT IT READS IS OF BULK AT MOST 1048576: true; the input reads as it did. -/
def holdNumbersUptoRow : OpenClaim := { program := "ythkongkbefpilaadoor", sum := "415dd59d4dde10ad6b51a0ddb14f8220faad0ac7aee8347a74eb82c2eda9e49e", func := "slipway/slipwaylaw19.HoldNumbers", spec := "holdNumbers", inPlace := ["internal/reflectlite.TypeOf"], unfollowed := true, recurses := true, named := ["slipway/hold.errFull", "slipway/hold.errSealed"], apart := false, laid := [("slipway/hold.errFull", laid_slipway_hold_errFull), ("slipway/hold.errSealed", laid_slipway_hold_errSealed)], narrowed := true }
def HoldNumbersUptoSaid : Prop := holdNumbersUptoRow.holds Tryd.pinned (OpenSpec.upto holdNumbersSpec)

/-- 'slipwaylaw19.HoldMakes', WHERE WHAT IT READS IS OF BULK AT MOST 1048576: true; the input reads as it did. -/
def holdMakesUptoRow : OpenClaim := { program := "ythkongkbefpilaadoor", sum := "415dd59d4dde10ad6b51a0ddb14f8220faad0ac7aee8347a74eb82c2eda9e49e", func := "slipway/slipwaylaw19.HoldMakes", spec := "holdMakes", inPlace := ["internal/reflectlite.TypeOf"], unfollowed := true, recurses := true, named := ["slipway/hold.errFull", "slipway/hold.errSealed"], apart := false, laid := [("slipway/hold.errFull", laid_slipway_hold_errFull), ("slipway/hold.errSealed", laid_slipway_hold_errSealed)], narrowed := true }
def HoldMakesUptoSaid : Prop := holdMakesUptoRow.holds Tryd.pinned (OpenSpec.upto holdMakesSpec)

/-- 'slipwaylaw19.HoldPlays', WHERE WHAT IT READS IS OF BULK AT MOST 1048576: true; the input reads as it did. -/
def holdPlaysUptoRow : OpenClaim := { program := "ythkongkbefpilaadoor", sum := "415dd59d4dde10ad6b51a0ddb14f8220faad0ac7aee8347a74eb82c2eda9e49e", func := "slipway/slipwaylaw19.HoldPlays", spec := "holdPlays", inPlace := ["internal/reflectlite.TypeOf"], unfollowed := true, recurses := true, named := ["slipway/hold.errFull", "slipway/hold.errSealed"], apart := false, laid := [("slipway/hold.errFull", laid_slipway_hold_errFull), ("slipway/hold.errSealed", laid_slipway_hold_errSealed)], narrowed := true }
def HoldPlaysUptoSaid : Prop := holdPlaysUptoRow.holds Tryd.pinned (OpenSpec.upto holdPlaysSpec)

/-- 'slipwaylaw19.HoldNever', WHERE WHAT IT READS IS OF BULK AT MOST 1048576: true; the input reads as it did. -/
def holdNeverUptoRow : OpenClaim := { program := "ythkongkbefpilaadoor", sum := "415dd59d4dde10ad6b51a0ddb14f8220faad0ac7aee8347a74eb82c2eda9e49e", func := "slipway/slipwaylaw19.HoldNever", spec := "holdNever", inPlace := ["internal/reflectlite.TypeOf"], unfollowed := true, recurses := true, named := ["slipway/hold.errFull", "slipway/hold.errSealed"], apart := false, laid := [("slipway/hold.errFull", laid_slipway_hold_errFull), ("slipway/hold.errSealed", laid_slipway_hold_errSealed)], narrowed := true }
def HoldNeverUptoSaid : Prop := holdNeverUptoRow.holds Tryd.pinned (OpenSpec.upto holdNeverSpec)

end Rows
end Go.Proofs.YthkongkbefpilaaDoor
