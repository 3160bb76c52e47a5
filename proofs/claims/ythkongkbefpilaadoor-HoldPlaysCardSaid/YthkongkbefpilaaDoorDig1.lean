/-
  The walks of the small functions: a word turned, the tables, the words of a block (the program's and the reference's).
-/
import Derived.Test.YthkongkbefpilaaDoorProg
import Derived.Test.YthkongkbefpilaaDoorBase
import Derived.WalkSpells
import Derived.WalkLawsBesides
import Derived.Deep.QuietTactic
import Derived.BigQuiet
import Derived.StillTailTactics
import Derived.Deep.MidRow
namespace Go.Proofs.YthkongkbefpilaaDoor
open Go.RowKit Sha
attribute [local go_sem] u_xor u_and u_or u_add u_shr u_shl by_conv u_shl24 u_shl16 u_shl8 u_shr3 u_shr10
theorem rot_s (n : Nat) (h1 : 1 ≤ n) (h : n ≤ 31) : bits BinOp.and IntKind.u64 (IntKind.u64.wrap (-(n : Int))) 31 = ((32 - n : Nat) : Int) := by
  revert h1
  revert n
  decide
theorem rot_any (x : BitVec 32) (n : Nat) (w : World) (h1 : 1 ≤ n) (h2 : n ≤ 31) :
    Calls Tryd.prog 55 #[.int .u32 (wd x), .int .i64 (-(n : Int))] w fun e w' => e = .returned (.int .u32 (wd (rotr x n))) ∧ w = w' := by
  have hs := rot_s n h1 h2
  have e3 : ((32 : Int) - ((32 - n : Nat) : Int)) = (n : Int) := by omega
  go_enter Tryd.func55, Tryd.ntmps55
  go_wp2
  go_ret
  exact ⟨rfl, rfl⟩
theorem right_any (x : BitVec 32) (n : Nat) (w : World) (h1 : 1 ≤ n) (h2 : n ≤ 31) :
    Calls Tryd.prog 54 #[.int .u32 (wd x), .int .i64 (n : Int)] w fun e w' => e = .returned (.int .u32 (wd (rotr x n))) ∧ w = w' := by
  go_enter Tryd.func54, Tryd.ntmps54
  go_wp2_with (go_at_call 55; refine (rot_any x n _ h1 h2).mono ?_; rintro e w' ⟨rfl, rfl⟩)
  go_ret
  exact ⟨rfl, rfl⟩
theorem turn_any (x : BitVec 32) (n : Nat) (w : World) (h1 : 1 ≤ n) (h2 : n ≤ 31) :
    Calls Tryd.prog 51 #[.int .u32 (wd x), .int .i64 (n : Int)] w fun e w' => e = .returned (.int .u32 (wd (rotr x n))) ∧ ∃ k, w' = w.drewN k := by
  have e3 : ((32 : Int) - (n : Int)) = ((32 - n : Nat) : Int) := by omega
  go_enter Tryd.func51, Tryd.ntmps51
  go_wp2
  go_quiet (fail)
  go_wp2
  go_ret
  exact ⟨by rw [← rotr_or]; rfl, _, rfl⟩
theorem K_cells : (#[.int .u32 0x428a2f98, .int .u32 0x71374491, .int .u32 0xb5c0fbcf, .int .u32 0xe9b5dba5, .int .u32 0x3956c25b, .int .u32 0x59f111f1, .int .u32 0x923f82a4, .int .u32 0xab1c5ed5,
    .int .u32 0xd807aa98, .int .u32 0x12835b01, .int .u32 0x243185be, .int .u32 0x550c7dc3, .int .u32 0x72be5d74, .int .u32 0x80deb1fe, .int .u32 0x9bdc06a7, .int .u32 0xc19bf174,
    .int .u32 0xe49b69c1, .int .u32 0xefbe4786, .int .u32 0x0fc19dc6, .int .u32 0x240ca1cc, .int .u32 0x2de92c6f, .int .u32 0x4a7484aa, .int .u32 0x5cb0a9dc, .int .u32 0x76f988da,
    .int .u32 0x983e5152, .int .u32 0xa831c66d, .int .u32 0xb00327c8, .int .u32 0xbf597fc7, .int .u32 0xc6e00bf3, .int .u32 0xd5a79147, .int .u32 0x06ca6351, .int .u32 0x14292967,
    .int .u32 0x27b70a85, .int .u32 0x2e1b2138, .int .u32 0x4d2c6dfc, .int .u32 0x53380d13, .int .u32 0x650a7354, .int .u32 0x766a0abb, .int .u32 0x81c2c92e, .int .u32 0x92722c85,
    .int .u32 0xa2bfe8a1, .int .u32 0xa81a664b, .int .u32 0xc24b8b70, .int .u32 0xc76c51a3, .int .u32 0xd192e819, .int .u32 0xd6990624, .int .u32 0xf40e3585, .int .u32 0x106aa070,
    .int .u32 0x19a4c116, .int .u32 0x1e376c08, .int .u32 0x2748774c, .int .u32 0x34b0bcb5, .int .u32 0x391c0cb3, .int .u32 0x4ed8aa4a, .int .u32 0x5b9cca4f, .int .u32 0x682e6ff3,
    .int .u32 0x748f82ee, .int .u32 0x78a5636f, .int .u32 0x84c87814, .int .u32 0x8cc70208, .int .u32 0x90befffa, .int .u32 0xa4506ceb, .int .u32 0xbef9a3f7, .int .u32 0xc67178f2] : Array Value) = (WC K).toArray := by kernel_rfl
theorem wpList_built {P : Program} {ops : Array Oper} {rest : List Oper} {o : Oper} {a : Act} {w : World} {Q : Exit → Act → World → Prop} (hg : o.guard = none) (t : TypeId) (parts : Array (Nat × Operand)) (ho : o.op = .build t parts)
    (cs : Array Value) (hf : P.built t (parts.map fun (i, x) => (i, a.eval x)).toList = some cs)
    (h : wpList P ops Q rest (a.put o.dst (.agg cs)) w) : wpList P ops Q (o :: rest) a w := by
  refine wpList_build hg t parts ho (by rw [hf]; rfl) ?_
  rw [hf]
  exact h
set_option maxRecDepth 100000 in
theorem table_any (w : World) : Calls Tryd.prog 52 #[] w fun e w' => e = .returned (.agg (WC K).toArray) ∧ Only Nil w w' := by
  go_enter Tryd.func52, Tryd.ntmps52
  go_wp2_with (first | ((with_reducible show wpList _ _ _ (Oper.mk _ (.build _ _) _ _ _ _ :: _) _ _); refine wpList_built rfl 99 _ rfl (WC K).toArray (by kernel_rfl) ?_) | ((with_reducible show wpList _ _ _ (Oper.mk none (.store _ _ _) _ _ _ _ :: _) _ _); refine wpList_store_row rfl 99 (.tmp 0) (.tmp 1) rfl w.heap.size (WC K).toArray rfl rfl _ _ (heap_alloc_new w _) ?_ ?_ ?_ ?_))
  · kernel_rfl
  · rfl
  · exact all_oneCell_toArray (WC_one K)
  · refine bodyPost_ret (results_cell_row rfl _ _ w.heap.size 99 (WC K).toArray (0, 0) _ rfl (setRow_heap _ _ _ _ _ _ (heap_alloc_new w _)) Tryd.underlying99 rfl (by kernel_rfl)) rfl ⟨rfl, ?_⟩
    exact ((Only.refl _ _).alloc _).setRow (.inr (Nat.le_refl _)) _
set_option maxRecDepth 100000 in
theorem rtable_any (w : World) : Calls Tryd.prog 49 #[] w fun e w' => e = .returned (.slice (some ⟨w.heap.size, 0, none⟩) 64 64) ∧ w' = w.alloc (.cells (WC K).toArray 71) := by
  go_enter Tryd.func49, Tryd.ntmps49
  go_wp2
  rw [← K_cells]
  go_ret
  exact ⟨rfl, rfl⟩
end Go.Proofs.YthkongkbefpilaaDoor
