/-
  errors.Is at the program's two sentinels; hold's number and open.
-/
import Derived.Test.YthkongkbefpilaaDoorLent
import Derived.Test.YthkongkbefpilaaDoorCut
import Derived.LaidEql
import Derived.Stop.Asserts
import Derived.RowKitTokens
namespace Go.Proofs.YthkongkbefpilaaDoor
open Go.RowKit Go.Extern.Stop Go.Stop Go.Extern

theorem isTypeOf0 (v : Value) (w : World) : (Extern.ReflectliteType.typeOf #[.iface 103 v]).run Tryd.prog w = .ok (.iface 90 (.agg #[.pointer (some ⟨2, 103, none⟩)])) w := by kernel_rfl
theorem isComparable0 (w : World) : ((Extern.ReflectliteType.method fun t => do Extern.Rtype.noPackHeld "Comparable" t; pure (.bool (← typeInfo t).comparable)) #[.agg #[.pointer (some ⟨2, 103, none⟩)]]).run Tryd.prog w = .ok (.bool true) w := by kernel_rfl
theorem isTypeOf (v : Value) (w : World) : (callFunc 46 #[.iface 103 v]).run Tryd.prog w = .ok (.value (.iface 90 (.agg #[.pointer (some ⟨2, 103, none⟩)]))) w := by
  have h8 := @run_callFunc_extern Tryd.prog 46 _ Extern.ReflectliteType.typeOf Tryd.func46 (by kernel_rfl) (by kernel_rfl) (by kernel_rfl) (by kernel_rfl)
  rw [h8, isTypeOf0]
  rfl
theorem isComparable (w : World) : (callFunc 75 #[.agg #[.pointer (some ⟨2, 103, none⟩)]]).run Tryd.prog w = .ok (.value (.bool true)) w := by
  have h32 := @run_callFunc_extern Tryd.prog 75 _ (Extern.ReflectliteType.method fun t => do Extern.Rtype.noPackHeld "Comparable" t; pure (.bool (← typeInfo t).comparable)) Tryd.func75 (by kernel_rfl) (by kernel_rfl) (by kernel_rfl) (by kernel_rfl)
  rw [h32, isComparable0]
  rfl
theorem isMethodComparable (v : Value) (w : World) : (Go.method 239 90 v "Comparable").run Tryd.prog w = .ok (75, v) w := by kernel_rfl
theorem isComp : (Tryd.prog.info? 103).map (·.comparable) = some true := by kernel_rfl
theorem isSize : (Tryd.prog.info? 127).map (·.size) = some 1 := by kernel_rfl
theorem noIsE (v : Value) (xT : TypeId) (w : World) : (Instr.typeAssert (.iface 103 v) xT 92 true).run Tryd.prog w = .ok (.tuple #[.nilIface, .bool false]) w := run_typeAssert_lacksB Tryd.underlying92 (by kernel_rfl) (by kernel_rfl) v xT w
theorem noUnwrapE (v : Value) (xT : TypeId) (w : World) : (Instr.typeAssert (.iface 103 v) xT 95 true).run Tryd.prog w = .ok (.tuple #[.nilIface, .bool false]) w := run_typeAssert_lacksB Tryd.underlying95 (by kernel_rfl) (by kernel_rfl) v xT w
theorem noUnwrapsE (v : Value) (xT : TypeId) (w : World) : (Instr.typeAssert (.iface 103 v) xT 96 true).run Tryd.prog w = .ok (.tuple #[.nilIface, .bool false]) w := run_typeAssert_lacksB Tryd.underlying96 (by kernel_rfl) (by kernel_rfl) v xT w

theorem is_same (a : Addr) (w : World) :
    Calls Tryd.prog 43 #[.iface 103 (.pointer (some a)), .iface 103 (.pointer (some a))] w fun e w' => e = .returned (.bool true) ∧ w' = w := by
  obtain ⟨i, hi, hcmp⟩ := Option.map_eq_some_iff.1 isComp
  obtain ⟨j, hj, hjs⟩ := Option.map_eq_some_iff.1 isSize
  have tT := isTypeOf
  have cT := isComparable
  have mR := isMethodComparable
  have heq := run_eql_iface_ptr_same (P := Tryd.prog) w a Tryd.underlying66 Tryd.underlying103 hi hcmp hj
  go_enter Tryd.func43, Tryd.ntmps43
  go_wp2
  refine wp_loop_rounds 1 ?_
  rw [rounds_succ]
  go_wp2
  go_ret
  exact ⟨rfl, rfl⟩
theorem is_nil (b : Addr) (w : World) :
    Calls Tryd.prog 43 #[.nilIface, .iface 103 (.pointer (some b))] w fun e w' => e = .returned (.bool false) ∧ w' = w := by
  have hn := run_eql_iface_nil_left (P := Tryd.prog) w 103 (.pointer (some b)) Tryd.underlying66
  go_enter Tryd.func43, Tryd.ntmps43
  go_wp2
  go_ret
  exact ⟨rfl, rfl⟩
theorem is_other (a b : Addr) (ca cb : Array Value) (ta tb : TypeId) (w : World) (hne : a ≠ b) (ha : w.heap[a.block]? = some (.cells ca ta (0, 0))) (hb : w.heap[b.block]? = some (.cells cb tb (0, 0))) :
    Calls Tryd.prog 43 #[.iface 103 (.pointer (some a)), .iface 103 (.pointer (some b))] w fun e w' => e = .returned (.bool false) ∧ w' = w := by
  obtain ⟨i, hi, hcmp⟩ := Option.map_eq_some_iff.1 isComp
  obtain ⟨j, hj, hjs⟩ := Option.map_eq_some_iff.1 isSize
  have tT := isTypeOf
  have cT := isComparable
  have mR := isMethodComparable
  have nE := noIsE
  have uE := noUnwrapE
  have vE := noUnwrapsE
  have heq := run_eql_iface_ptr_other (P := Tryd.prog) w Tryd.underlying66 Tryd.underlying103 hi hcmp hj (by rw [hjs]; decide) hne ha hb
  go_enter Tryd.func43, Tryd.ntmps43
  go_wp2
  refine wp_loop_rounds 1 ?_
  rw [rounds_succ]
  go_wp2
  go_ret
  exact ⟨rfl, rfl⟩

/-- The two sentinels lie where they lie, below B. -/
structure Errs (B : Nat) (a0 a1 : Addr) (w : World) : Prop where
  full : w.cell? ⟨0, 0, none⟩ = some (.iface 103 (.pointer (some a0)))
  shut : w.cell? ⟨1, 0, none⟩ = some (.iface 103 (.pointer (some a1)))
  ne : a0 ≠ a1
  row0 : ∃ c t, w.heap[a0.block]? = some (.cells c t (0, 0))
  row1 : ∃ c t, w.heap[a1.block]? = some (.cells c t (0, 0))
  lt : 1 < B ∧ a0.block < B ∧ a1.block < B
theorem Errs.only {B : Nat} {a0 a1 : Addr} {w w' : World} {S : Nat → Prop} (h : Errs B a0 a1 w) (ho : Only S w w') (hS : ∀ k, S k → B ≤ k) : Errs B a0 a1 w' := by
  have h1 := h.lt
  have lt : ∀ {b : Nat} {c t}, w.heap[b]? = some (.cells c t (0, 0)) → b < w.heap.size := fun e => (Array.getElem?_eq_some_iff.1 e).1
  refine ⟨ho.cell h.full fun hk => ?_, ho.cell h.shut fun hk => ?_, h.ne, ?_, ?_, h.lt⟩
  · have := hS _ hk; simp at this; omega
  · have := hS _ hk; simp at this; omega
  · obtain ⟨c, t, e⟩ := h.row0
    exact ⟨c, t, (ho.block _ (lt e) fun hk => by have := hS _ hk; omega).trans e⟩
  · obtain ⟨c, t, e⟩ := h.row1
    exact ⟨c, t, (ho.block _ (lt e) fun hk => by have := hS _ hk; omega).trans e⟩
/-- The error of a number. -/
def ev (a0 a1 : Addr) : Nat → Value
  | 3 => .iface 103 (.pointer (some a0))
  | 190 => .iface 103 (.pointer (some a1))
  | _ => .nilIface
theorem number_any {B : Nat} {a0 a1 : Addr} (n : Nat) (hn : n = 0 ∨ n = 3 ∨ n = 190) (w : World) (h : Errs B a0 a1 w) :
    Calls Tryd.prog 35 #[ev a0 a1 n] w fun e w' => e = .returned (.int .i64 (n : Int)) ∧ Only Nil w w' := by
  obtain ⟨c0, t0, r0⟩ := h.row0
  obtain ⟨c1, t1, r1⟩ := h.row1
  have k0 := h.full
  have k1 := h.shut
  have ne := h.ne
  rcases hn with rfl | rfl | rfl
  · show Calls _ _ #[.nilIface] _ _
    go_enter Tryd.func35, Tryd.ntmps35
    go_wp2_with (go_at_call 43; refine (is_nil _ _).mono ?_; rintro e w' ⟨rfl, rfl⟩)
    all_goals go_ret
    all_goals exact ⟨rfl, Only.refl _ _⟩
  · show Calls _ _ #[.iface 103 (.pointer (some a0))] _ _
    go_enter Tryd.func35, Tryd.ntmps35
    go_wp2_with (go_at_call 43; refine (is_same _ _).mono ?_; rintro e w' ⟨rfl, rfl⟩)
    all_goals go_ret
    all_goals exact ⟨rfl, Only.refl _ _⟩
  · show Calls _ _ #[.iface 103 (.pointer (some a1))] _ _
    go_enter Tryd.func35, Tryd.ntmps35
    go_wp2_with (first
      | (go_at_call 43; refine (is_other _ _ c1 c0 t1 t0 _ ?_ ?_ ?_).mono ?_; exact ne.symm; exact r1; exact r0; rintro e w' ⟨rfl, rfl⟩)
      | (go_at_call 43; refine (is_same _ _).mono ?_; rintro e w' ⟨rfl, rfl⟩))
    all_goals go_ret
    all_goals exact ⟨rfl, Only.refl _ _⟩
end Go.Proofs.YthkongkbefpilaaDoor
