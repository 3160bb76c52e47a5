/-
  No cell of these rows narrows 'for every input' (looked for: loops, veiled, ifaces, maps, wideKeys, modest, calm, conditions, laid).
  DERIVED. THE GIVEN ROWS OF THIS SEAT. 7 by the template 'for every input the law returns true; each argument reads behind the call as it read before'; 0 by the template 'total and deterministic' (their statements: YthoaeolohnalnaaTotals.lean).
  GIVEN WITH THE SEED: the statements are not yours to turn. If you find one false, say at which input.
  Laid BY PROGRAM, IN A SANDBOX (cutbox-rows.mjs): the forced cells as the released guide's own fill.sh prints them over the translation de38e73fd71ce6c6… (all of the seat's roots in one cut). By AI agents, Wed Nov 11 2026. No macro, syntax, notation, axiom, sorry.
-/
import Derived.Test.YthoaeolohnalnaaChecked
import GoSem.Claim
import GoSem.ClaimJoined
import GoSem.ClaimMapViews
import Derived.JoinedTies
import Derived.KernelRfl
namespace Go.Proofs.Ythoaeolohnalnaa
/- THE CELL 'sum', in the pinned program and in every row, IS THE sha256 OF THE DUMP (.gsa) THAT YthoaeolohnalnaaProg.lean LOADS. Nothing in Lean hashes anything: it is a label: what it is worth is what the hold of that sum in a sandbox is worth. -/
noncomputable def Try.pinned : Pinned := { name := "ythoaeolohnalnaa", sum := "de38e73fd71ce6c629b9ddb53ae7f20ce8ad0826f2243c083e1dc37271d4355e", checked := Try.checked }
namespace Rows
def none {H : Type} : Left H := { results := [], args := [] }

/-- 'slipwaylaw27.JudgeComes': WHATEVER THE INPUT: true; the input reads as it did. -/
def judgeComesSpec : ChangeSpec := { name := "judgeComes", fn := fun _ => fun
  | [d1, d2] => { results := [.lit (.bool true)], args := [d1, d2] }
  | _ => none }
def judgeComesRow : OpenClaim := { program := "ythoaeolohnalnaa", sum := "de38e73fd71ce6c629b9ddb53ae7f20ce8ad0826f2243c083e1dc37271d4355e", func := "slipway/slipwaylaw27.JudgeComes", spec := "judgeComes", unfollowed := true, recurses := true, apart := false }
def JudgeComesSaid : Prop := judgeComesRow.holds Try.pinned (OpenSpec.ofChange judgeComesSpec)

/-- ITS FALSE NEIGHBOUR: 'it returns false'. Refute it at one input. -/
def judgeComesWrong : ChangeSpec := { name := "judgeComes", fn := fun _ => fun
  | [d1, d2] => { results := [.lit (.bool false)], args := [d1, d2] }
  | _ => none }
def JudgeComesWrongFalsely : Prop := judgeComesRow.holds Try.pinned (OpenSpec.ofChange judgeComesWrong)

/-- 'slipwaylaw27.JudgeLets': WHATEVER THE INPUT: true; the input reads as it did. -/
def judgeLetsSpec : ChangeSpec := { name := "judgeLets", fn := fun _ => fun
  | [d1, d2] => { results := [.lit (.bool true)], args := [d1, d2] }
  | _ => none }
def judgeLetsRow : OpenClaim := { program := "ythoaeolohnalnaa", sum := "de38e73fd71ce6c629b9ddb53ae7f20ce8ad0826f2243c083e1dc37271d4355e", func := "slipway/slipwaylaw27.JudgeLets", spec := "judgeLets", unfollowed := true, recurses := true, apart := false }
def JudgeLetsSaid : Prop := judgeLetsRow.holds Try.pinned (OpenSpec.ofChange judgeLetsSpec)

/-- ITS FALSE NEIGHBOUR: 'it returns false'. Refute it at one input. -/
def judgeLetsWrong : ChangeSpec := { name := "judgeLets", fn := fun _ => fun
  | [d1, d2] => { results := [.lit (.bool false)], args := [d1, d2] }
  | _ => none }
def JudgeLetsWrongFalsely : Prop := judgeLetsRow.holds Try.pinned (OpenSpec.ofChange judgeLetsWrong)

/-- 'slipwaylaw27.JudgeNumbers': WHATEVER THE INPUT: true; the input reads as it did. -/
def judgeNumbersSpec : ChangeSpec := { name := "judgeNumbers", fn := fun _ => fun
  | [] => { results := [.lit (.bool true)], args := [] }
  | _ => none }
def judgeNumbersRow : OpenClaim := { program := "ythoaeolohnalnaa", sum := "de38e73fd71ce6c629b9ddb53ae7f20ce8ad0826f2243c083e1dc37271d4355e", func := "slipway/slipwaylaw27.JudgeNumbers", spec := "judgeNumbers", unfollowed := true, recurses := true, apart := false }
def JudgeNumbersSaid : Prop := judgeNumbersRow.holds Try.pinned (OpenSpec.ofChange judgeNumbersSpec)

/-- ITS FALSE NEIGHBOUR: 'it returns false'. Refute it at one input. -/
def judgeNumbersWrong : ChangeSpec := { name := "judgeNumbers", fn := fun _ => fun
  | [] => { results := [.lit (.bool false)], args := [] }
  | _ => none }
def JudgeNumbersWrongFalsely : Prop := judgeNumbersRow.holds Try.pinned (OpenSpec.ofChange judgeNumbersWrong)

/-- 'slipwaylaw27.JudgeFinds': WHATEVER THE INPUT: true; the input reads as it did. -/
def judgeFindsSpec : ChangeSpec := { name := "judgeFinds", fn := fun _ => fun
  | [d1, d2, d3] => { results := [.lit (.bool true)], args := [d1, d2, d3] }
  | _ => none }
def judgeFindsRow : OpenClaim := { program := "ythoaeolohnalnaa", sum := "de38e73fd71ce6c629b9ddb53ae7f20ce8ad0826f2243c083e1dc37271d4355e", func := "slipway/slipwaylaw27.JudgeFinds", spec := "judgeFinds", unfollowed := true, recurses := true, apart := false }
def JudgeFindsSaid : Prop := judgeFindsRow.holds Try.pinned (OpenSpec.ofChange judgeFindsSpec)

/-- ITS FALSE NEIGHBOUR: 'it returns false'. Refute it at one input. -/
def judgeFindsWrong : ChangeSpec := { name := "judgeFinds", fn := fun _ => fun
  | [d1, d2, d3] => { results := [.lit (.bool false)], args := [d1, d2, d3] }
  | _ => none }
def JudgeFindsWrongFalsely : Prop := judgeFindsRow.holds Try.pinned (OpenSpec.ofChange judgeFindsWrong)

/-- 'slipwaylaw27.JudgePhases': WHATEVER THE INPUT: true; the input reads as it did. -/
def judgePhasesSpec : ChangeSpec := { name := "judgePhases", fn := fun _ => fun
  | [d1, d2] => { results := [.lit (.bool true)], args := [d1, d2] }
  | _ => none }
def judgePhasesRow : OpenClaim := { program := "ythoaeolohnalnaa", sum := "de38e73fd71ce6c629b9ddb53ae7f20ce8ad0826f2243c083e1dc37271d4355e", func := "slipway/slipwaylaw27.JudgePhases", spec := "judgePhases", unfollowed := true, recurses := true, apart := false }
def JudgePhasesSaid : Prop := judgePhasesRow.holds Try.pinned (OpenSpec.ofChange judgePhasesSpec)

/-- ITS FALSE NEIGHBOUR: 'it returns false'. Refute it at one input. -/
def judgePhasesWrong : ChangeSpec := { name := "judgePhases", fn := fun _ => fun
  | [d1, d2] => { results := [.lit (.bool false)], args := [d1, d2] }
  | _ => none }
def JudgePhasesWrongFalsely : Prop := judgePhasesRow.holds Try.pinned (OpenSpec.ofChange judgePhasesWrong)

/-- 'slipwaylaw27.JudgeAddressed': WHATEVER THE INPUT: true; the input reads as it did. -/
def judgeAddressedSpec : ChangeSpec := { name := "judgeAddressed", fn := fun _ => fun
  | [d] => { results := [.lit (.bool true)], args := [d] }
  | _ => none }
def judgeAddressedRow : OpenClaim := { program := "ythoaeolohnalnaa", sum := "de38e73fd71ce6c629b9ddb53ae7f20ce8ad0826f2243c083e1dc37271d4355e", func := "slipway/slipwaylaw27.JudgeAddressed", spec := "judgeAddressed", unfollowed := true, recurses := true, apart := false }
def JudgeAddressedSaid : Prop := judgeAddressedRow.holds Try.pinned (OpenSpec.ofChange judgeAddressedSpec)

/-- ITS FALSE NEIGHBOUR: 'it returns false'. Refute it at one input. -/
def judgeAddressedWrong : ChangeSpec := { name := "judgeAddressed", fn := fun _ => fun
  | [d] => { results := [.lit (.bool false)], args := [d] }
  | _ => none }
def JudgeAddressedWrongFalsely : Prop := judgeAddressedRow.holds Try.pinned (OpenSpec.ofChange judgeAddressedWrong)

/-- 'slipwaylaw27.JudgeBeginnings': WHATEVER THE INPUT: true; the input reads as it did. -/
def judgeBeginningsSpec : ChangeSpec := { name := "judgeBeginnings", fn := fun _ => fun
  | [d1, d2, d3] => { results := [.lit (.bool true)], args := [d1, d2, d3] }
  | _ => none }
def judgeBeginningsRow : OpenClaim := { program := "ythoaeolohnalnaa", sum := "de38e73fd71ce6c629b9ddb53ae7f20ce8ad0826f2243c083e1dc37271d4355e", func := "slipway/slipwaylaw27.JudgeBeginnings", spec := "judgeBeginnings", unfollowed := true, recurses := true, apart := false }
def JudgeBeginningsSaid : Prop := judgeBeginningsRow.holds Try.pinned (OpenSpec.ofChange judgeBeginningsSpec)

/-- ITS FALSE NEIGHBOUR: 'it returns false'. Refute it at one input. -/
def judgeBeginningsWrong : ChangeSpec := { name := "judgeBeginnings", fn := fun _ => fun
  | [d1, d2, d3] => { results := [.lit (.bool false)], args := [d1, d2, d3] }
  | _ => none }
def JudgeBeginningsWrongFalsely : Prop := judgeBeginningsRow.holds Try.pinned (OpenSpec.ofChange judgeBeginningsWrong)

/- THE SECOND FORM. 'bulk': how many values and letters a reading holds, each counted each time it is reached (what is shared counts as often as it is met; a slice's spare places count too). A statement '..UptoSaid' is the law's where the arguments, and the package variables that the reading takes, are together of bulk at most 1048576: NARROWER than '..Said'. Prove '..Said' where nothing that the law and all that it calls make is longer than what came in: it says more and counts as full. Else prove '..UptoSaid'. A law counts once. -/
mutual
def uptoBulk {H : Type} : DataW H → Nat
  | .lit (.string bytes) => bytes.length + 1
  | .lit _ => 1
  | .nil => 1
  | .ptr d => uptoBulk d + 1
  | .slice elems spare => uptoBulkAll elems + uptoBulkAll spare + 1
  | .agg parts => uptoBulkAll parts + 1
  | .iface _ d => uptoBulk d + 1
  | .map entries => uptoBulkEntries entries + 1
  | .held _ => 1
def uptoBulkAll {H : Type} : List (DataW H) → Nat
  | [] => 0
  | d :: r => uptoBulk d + uptoBulkAll r
def uptoBulkEntries {H : Type} : List (Lit × DataW H) → Nat
  | [] => 0
  | x :: r => uptoBulkEntry x + uptoBulkEntries r
def uptoBulkEntry {H : Type} : Lit × DataW H → Nat
  | (.string bytes, d) => bytes.length + uptoBulk d + 1
  | (_, d) => uptoBulk d + 1
 end
def uptoSmall : (H : Type) → List (DataW H) → Bool := fun _ ds => decide (uptoBulkAll ds ≤ 1048576)
def OpenSpec.upto (s : _root_.Go.ChangeSpec) : _root_.Go.OpenSpec := { _root_.Go.OpenSpec.ofChange s with cond := some uptoSmall }

/-- 'slipwaylaw27.JudgeComes', WHERE WHAT IT READS IS OF BULK AT MOST 1048576: true; the input reads as it did. -/
def judgeComesUptoRow : OpenClaim := { program := "ythoaeolohnalnaa", sum := "de38e73fd71ce6c629b9ddb53ae7f20ce8ad0826f2243c083e1dc37271d4355e", func := "slipway/slipwaylaw27.JudgeComes", spec := "judgeComes", unfollowed := true, recurses := true, apart := false, narrowed := true }
def JudgeComesUptoSaid : Prop := judgeComesUptoRow.holds Try.pinned (OpenSpec.upto judgeComesSpec)

/-- 'slipwaylaw27.JudgeLets', WHERE WHAT IT READS IS OF BULK AT MOST 1048576: true; the input reads as it did. -/
def judgeLetsUptoRow : OpenClaim := { program := "ythoaeolohnalnaa", sum := "de38e73fd71ce6c629b9ddb53ae7f20ce8ad0826f2243c083e1dc37271d4355e", func := "slipway/slipwaylaw27.JudgeLets", spec := "judgeLets", unfollowed := true, recurses := true, apart := false, narrowed := true }
def JudgeLetsUptoSaid : Prop := judgeLetsUptoRow.holds Try.pinned (OpenSpec.upto judgeLetsSpec)

/-- 'slipwaylaw27.JudgeNumbers', WHERE WHAT IT READS IS OF BULK AT MOST 1048576: true; the input reads as it did. -/
def judgeNumbersUptoRow : OpenClaim := { program := "ythoaeolohnalnaa", sum := "de38e73fd71ce6c629b9ddb53ae7f20ce8ad0826f2243c083e1dc37271d4355e", func := "slipway/slipwaylaw27.JudgeNumbers", spec := "judgeNumbers", unfollowed := true, recurses := true, apart := false, narrowed := true }
def JudgeNumbersUptoSaid : Prop := judgeNumbersUptoRow.holds Try.pinned (OpenSpec.upto judgeNumbersSpec)

/-- 'slipwaylaw27.JudgeFinds', WHERE WHAT IT READS IS OF BULK AT MOST 1048576: true; the input reads as it did. -/
def judgeFindsUptoRow : OpenClaim := { program := "ythoaeolohnalnaa", sum := "de38e73fd71ce6c629b9ddb53ae7f20ce8ad0826f2243c083e1dc37271d4355e", func := "slipway/slipwaylaw27.JudgeFinds", spec := "judgeFinds", unfollowed := true, recurses := true, apart := false, narrowed := true }
def JudgeFindsUptoSaid : Prop := judgeFindsUptoRow.holds Try.pinned (OpenSpec.upto judgeFindsSpec)

/-- 'slipwaylaw27.JudgePhases', WHERE WHAT IT READS IS OF BULK AT MOST 1048576: true; the input reads as it did. -/
def judgePhasesUptoRow : OpenClaim := { program := "ythoaeolohnalnaa", sum := "de38e73fd71ce6c629b9ddb53ae7f20ce8ad0826f2243c083e1dc37271d4355e", func := "slipway/slipwaylaw27.JudgePhases", spec := "judgePhases", unfollowed := true, recurses := true, apart := false, narrowed := true }
def JudgePhasesUptoSaid : Prop := judgePhasesUptoRow.holds Try.pinned (OpenSpec.upto judgePhasesSpec)

/-- 'slipwaylaw27.JudgeAddressed', WHERE WHAT IT READS IS OF BULK AT MOST 1048576: true; the input reads as it did. -/
def judgeAddressedUptoRow : OpenClaim := { program := "ythoaeolohnalnaa", sum := "de38e73fd71ce6c629b9ddb53ae7f20ce8ad0826f2243c083e1dc37271d4355e", func := "slipway/slipwaylaw27.JudgeAddressed", spec := "judgeAddressed", unfollowed := true, recurses := true, apart := false, narrowed := true }
def JudgeAddressedUptoSaid : Prop := judgeAddressedUptoRow.holds Try.pinned (OpenSpec.upto judgeAddressedSpec)

/-- 'slipwaylaw27.JudgeBeginnings', WHERE WHAT IT READS IS OF BULK AT MOST 1048576: true; the input reads as it did. -/
def judgeBeginningsUptoRow : OpenClaim := { program := "ythoaeolohnalnaa", sum := "de38e73fd71ce6c629b9ddb53ae7f20ce8ad0826f2243c083e1dc37271d4355e", func := "slipway/slipwaylaw27.JudgeBeginnings", spec := "judgeBeginnings", unfollowed := true, recurses := true, apart := false, narrowed := true }
def JudgeBeginningsUptoSaid : Prop := judgeBeginningsUptoRow.holds Try.pinned (OpenSpec.upto judgeBeginningsSpec)

end Rows
end Go.Proofs.Ythoaeolohnalnaa
