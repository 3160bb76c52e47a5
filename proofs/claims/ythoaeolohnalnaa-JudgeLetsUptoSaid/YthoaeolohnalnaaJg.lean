/-
  The map of the rules, and what is found in it.
-/
import Derived.Test.YthoaeolohnalnaaJc
import Derived.MapKept
namespace Go.Proofs.Ythoaeolohnalnaa
open Go.RowKit

/-- The rules that the map has, of the first n kinds. -/
def ruleEs (g : Nat) : List MapEntry := [⟨.int .i64 1, .func (.func 49) #[.pointer (some ⟨g, 0, none⟩)] #[], 0⟩, ⟨.int .i64 2, .func (.func 50) #[.pointer (some ⟨g, 0, none⟩)] #[], 1⟩, ⟨.int .i64 3, .func (.func 51) #[.pointer (some ⟨g, 0, none⟩)] #[], 2⟩, ⟨.int .i64 4, .func (.func 52) #[.pointer (some ⟨g, 0, none⟩)] #[], 3⟩, ⟨.int .i64 5, .func (.func 53) #[.pointer (some ⟨g, 0, none⟩)] #[], 4⟩, ⟨.int .i64 6, .func (.func 54) #[.pointer (some ⟨g, 0, none⟩)] #[], 5⟩, ⟨.int .i64 7, .func (.func 55) #[.pointer (some ⟨g, 0, none⟩)] #[], 6⟩]
def RuleMap (W : World) (b g n : Nat) : Prop := W.heap[b]? = some (.map ((ruleEs g).take n).toArray n)
theorem run_insert_int {W : World} {t kt et : TypeId} {P : Program} (ht : P.underlying t = some (.map kt et)) (hk : P.underlying kt = some (.int .i64)) {b : Nat} {es : Array MapEntry} {clock : Nat} (hb : W.heap[b]? = some (.map es clock)) (k : Int) (val : Value)
    (hf : Instr.findNow (.int .i64) (.int .i64 k) es.toList 0 = some none) :
    (Instr.mapUpdate t (.map (some b)) (.int .i64 k) val).run P W = .ok () { W with heap := W.heap.setIfInBounds b (.map (es.push { key := .int .i64 k, val := val, born := clock }) (clock + 1)) } := by
  have hc : (Instr.checkKey false 10000 kt (.int .i64 k)).run P W = .ok () W := MapKept.run_checkKey (k := .int .i64 k) hk (by simp [MapKept.IsKey]) false 9999
  simp [Instr.mapUpdate, run_underlying ht, MapKept.run_getObj_map hb, hc, MapKept.run_findKey hk hf, MapKept.run_setObj_map _ hb, Result.andThen]
theorem run_lookup_int {W : World} {t kt et : TypeId} {P : Program} (ht : P.underlying t = some (.map kt et)) (hk : P.underlying kt = some (.int .i64)) {b : Nat} {es : Array MapEntry} {clock : Nat} (hb : W.heap[b]? = some (.map es clock)) (k : Int) (i : Nat) (val : Value)
    (hf : Instr.findNow (.int .i64) (.int .i64 k) es.toList 0 = some (some (i, val))) :
    (Instr.lookup t (.map (some b)) (.int .i64 k) false).run P W = .ok val W := by
  have hc : (Instr.checkKey es.isEmpty 10000 kt (.int .i64 k)).run P W = .ok () W := MapKept.run_checkKey (k := .int .i64 k) hk (by simp [MapKept.IsKey]) es.isEmpty 9999
  simp [Instr.lookup, run_underlying ht, MapKept.run_getObj_map hb, hc, MapKept.run_findKey hk hf, Result.andThen]
theorem RuleMap.push {W : World} {b g n : Nat} (h : RuleMap W b g n) (e : MapEntry) (he : (ruleEs g).take n ++ [e] = (ruleEs g).take (n + 1)) :
    RuleMap { W with heap := W.heap.setIfInBounds b (.map ((ruleEs g).take n ++ [e]).toArray (n + 1)) } b g (n + 1) ∧ Only (One b) W { W with heap := W.heap.setIfInBounds b (.map ((ruleEs g).take n ++ [e]).toArray (n + 1)) } := by
  rw [he]
  refine ⟨(MapKept.heap_set h).1, ⟨rfl, rfl, rfl, by simp, fun k _ hk => (MapKept.heap_set h).2 k hk⟩⟩
theorem wpList_insert_rule {W : World} {ops : Array Oper} {rest : List Oper} {o : Oper} {a : Act} {Q : Exit → Act → World → Prop} (hgd : o.guard = none) (m x : Operand) (k : Int)
    (ho : o.op = .insert 78 m (.const (.int .i64 k)) x) (b g n : Nat) (hm : a.eval m = .map (some b)) (val : Value) (hx : a.eval x = val) (hb : RuleMap W b g n)
    (hf : Instr.findNow (.int .i64) (.int .i64 k) (((ruleEs g).take n).toArray).toList 0 = some none) (he : (ruleEs g).take n ++ [{ key := .int .i64 k, val := val, born := n }] = (ruleEs g).take (n + 1))
    (h : ∀ W', RuleMap W' b g (n + 1) → Only (One b) W W' → wpList Try.prog ops Q rest (a.put o.dst undef) W') : wpList Try.prog ops Q (o :: rest) a W := by
  refine wpList_plain hgd fun _ hK => ?_
  have hrun := run_insert_int (P := Try.prog) (t := 78) Try.underlying78 Try.underlying3 hb k val hf
  obtain ⟨h1, h2⟩ := RuleMap.push hb _ he
  have hk2 : a.eval (.const (.int .i64 k)) = .int .i64 k := rfl
  unfold Oper.wp
  simp [execOp, ho, hm, hk2, hx, hrun, Result.andThen]
  exact hK _ _ (h _ h1 h2)
set_option maxHeartbeats 3200000 in
theorem rules_any (g : Nat) (w : World) : Calls Try.prog 42 #[.pointer (some ⟨g, 0, none⟩)] w fun r w' => r = .returned (.map (some w.heap.size)) ∧ RuleMap w' w.heap.size g 7 ∧ Only Nil w w' := by
  have hmf : ∀ (fn : Fn) (first cap : Array Value) (w : World), (Instr.makeFunc fn first cap).run Try.prog w = .ok (.func fn first cap) w := fun _ _ _ _ => rfl
  have hmm : ∀ w : World, (Instr.makeMap 78 none).run Try.prog w = .ok (.map (some w.heap.size)) (w.alloc (.map #[] 0)) := fun _ => rfl
  have r0 : RuleMap (w.alloc (.map #[] 0)) w.heap.size g 0 := heap_alloc_new w _
  have o0 : Only Nil w (w.alloc (.map #[] 0)) := (Only.refl _ _).alloc _
  have F : ∀ i, One w.heap.size i → Nil i ∨ w.heap.size ≤ i := fun i hi => .inr (Nat.le_of_eq (show i = w.heap.size from hi).symm)
  go_enter Try.func42, Try.ntmps42
  go_wp2_with (first
    | ((with_reducible show wpList _ _ _ (Oper.mk _ (.insert _ _ (.const (.int .i64 1)) _) _ _ _ _ :: _) _ _); refine wpList_insert_rule (by rfl) _ _ 1 (by rfl) w.heap.size g 0 (by rfl) _ (by rfl) r0 (by rfl) (by rfl) ?_; intro W1 r1 o1)
    | ((with_reducible show wpList _ _ _ (Oper.mk _ (.insert _ _ (.const (.int .i64 2)) _) _ _ _ _ :: _) _ _); refine wpList_insert_rule (by rfl) _ _ 2 (by rfl) w.heap.size g 1 (by rfl) _ (by rfl) r1 (by rfl) (by rfl) ?_; intro W2 r2 o2)
    | ((with_reducible show wpList _ _ _ (Oper.mk _ (.insert _ _ (.const (.int .i64 3)) _) _ _ _ _ :: _) _ _); refine wpList_insert_rule (by rfl) _ _ 3 (by rfl) w.heap.size g 2 (by rfl) _ (by rfl) r2 (by rfl) (by rfl) ?_; intro W3 r3 o3)
    | ((with_reducible show wpList _ _ _ (Oper.mk _ (.insert _ _ (.const (.int .i64 4)) _) _ _ _ _ :: _) _ _); refine wpList_insert_rule (by rfl) _ _ 4 (by rfl) w.heap.size g 3 (by rfl) _ (by rfl) r3 (by rfl) (by rfl) ?_; intro W4 r4 o4)
    | ((with_reducible show wpList _ _ _ (Oper.mk _ (.insert _ _ (.const (.int .i64 5)) _) _ _ _ _ :: _) _ _); refine wpList_insert_rule (by rfl) _ _ 5 (by rfl) w.heap.size g 4 (by rfl) _ (by rfl) r4 (by rfl) (by rfl) ?_; intro W5 r5 o5)
    | ((with_reducible show wpList _ _ _ (Oper.mk _ (.insert _ _ (.const (.int .i64 6)) _) _ _ _ _ :: _) _ _); refine wpList_insert_rule (by rfl) _ _ 6 (by rfl) w.heap.size g 5 (by rfl) _ (by rfl) r5 (by rfl) (by rfl) ?_; intro W6 r6 o6)
    | ((with_reducible show wpList _ _ _ (Oper.mk _ (.insert _ _ (.const (.int .i64 7)) _) _ _ _ _ :: _) _ _); refine wpList_insert_rule (by rfl) _ _ 7 (by rfl) w.heap.size g 6 (by rfl) _ (by rfl) r6 (by rfl) (by rfl) ?_; intro W7 r7 o7))
  go_ret
  exact ⟨rfl, r7, (((((((o0.trans o1 F).trans o2 F).trans o3 F).trans o4 F).trans o5 F).trans o6 F).trans o7 F)⟩
end Go.Proofs.Ythoaeolohnalnaa
