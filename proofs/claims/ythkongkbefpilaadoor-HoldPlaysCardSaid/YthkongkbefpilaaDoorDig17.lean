/-
  The law's own helpers: awake, live.
-/
import Derived.Test.YthkongkbefpilaaDoorDig16
import Derived.Test.YthkongkbefpilaaDoorSha3
import Derived.Stop.BytesEq
import Derived.Lib.SmallJoins
namespace Go.Proofs.YthkongkbefpilaaDoor
open Go.RowKit Sha
theorem put32 (w : World) (z : Array Value) (ds : List UInt8) : Only Nil w ((w.alloc (.cells z 23)).setRow w.heap.size (BC ds).toArray) ∧ Blk ((w.alloc (.cells z 23)).setRow w.heap.size (BC ds).toArray) w.heap.size 23 (BC ds) :=
  ⟨((Only.refl _ _).alloc _).setRow (.inr (Nat.le_refl _)) _, setRow_heap _ _ z _ _ (0, 0) (heap_alloc_new w _)⟩
theorem eql32 (W : World) (x y : List UInt8) (hx : x.length = 32) (hy : y.length = 32) : (binOp .eql 23 (.agg (BC x).toArray) (.agg (BC y).toArray)).run Tryd.prog W = .ok (.bool (x == y)) W :=
  run_eql_bytes W 23 5 32 Tryd.underlying23 Tryd.underlying5 (fun w => by obtain ⟨ib, hib, _, hbs, _⟩ := info_parts info_byte; simp [sizeOf, typeInfo, hib, hbs]) x y hx hy
theorem parts_nil (w : World) (A : Option Addr) (c : Nat) : Parts w (.slice A 0 c) [] [] := ⟨⟨A, c, rfl, Nat.zero_le _, fun h => absurd h (by simp)⟩, rfl, fun j hj => absurd hj (by simp)⟩
theorem drop_str (bs : List UInt8) (k : Nat) : (str bs).extract k (str bs).size = str (bs.drop k) := by
  apply ByteArray.ext
  rw [ByteArray.data_extract, str_size]
  unfold str
  apply Array.toList_inj.1
  simp
  exact List.take_of_length_le (by simp)
theorem lit_conv (W : World) (C : Array Value) (n n1 g : Nat) (hn : C.size = n) (hn1 : n + 1 = n1) (hg : g = W.heap.size) :
    (convert 26 26 (.slice (some ⟨g, 0, none⟩) n n)).run Tryd.prog (W.alloc (.cells C 5)) = .ok (.slice (some ⟨g, 0, none⟩) n n) (W.alloc (.cells C 5 (n, n1))) := by
  subst hn hn1
  exact Joins.run_convert_bytes_const_at W 26 5 C _ _ g hg Tryd.underlying26 Tryd.underlying5
theorem str_nil : str (hex (sha [])) = ⟨#[101, 51, 98, 48, 99, 52, 52, 50, 57, 56, 102, 99, 49, 99, 49, 52, 57, 97, 102, 98, 102, 52, 99, 56, 57, 57, 54, 102, 98, 57, 50, 52, 50, 55, 97, 101, 52, 49, 101, 52, 54, 52, 57, 98, 57, 51, 52, 99, 97, 52, 57, 53, 57, 57, 49, 98, 55, 56, 53, 50, 98, 56, 53, 53]⟩ := by rw [hex_nil]; rfl
theorem str_abc : str (hex (sha [97, 98, 99])) = ⟨#[98, 97, 55, 56, 49, 54, 98, 102, 56, 102, 48, 49, 99, 102, 101, 97, 52, 49, 52, 49, 52, 48, 100, 101, 53, 100, 97, 101, 50, 50, 50, 51, 98, 48, 48, 51, 54, 49, 97, 51, 57, 54, 49, 55, 55, 97, 57, 99, 98, 52, 49, 48, 102, 102, 54, 49, 102, 50, 48, 48, 49, 53, 97, 100]⟩ := by rw [hex_abc]; rfl
theorem equal32 (W : World) (x y : List UInt8) (hx : x.length = 32) (hy : y.length = 32) : (Op.equalIn 10000 23 (.agg (BC x).toArray) (.agg (BC y).toArray)).run Tryd.prog W = .ok (x == y) W :=
  run_equalIn_bytes W 9998 23 5 32 Tryd.underlying23 Tryd.underlying5 (fun w => by obtain ⟨ib, hib, _, hbs, _⟩ := info_parts info_byte; simp [sizeOf, typeInfo, hib, hbs]) x y hx hy
theorem wpList_load_wanted {P : Program} {ops : Array Oper} {rest : List Oper} {o : Oper} {a : Act} {w : World} {Q : Exit → Act → World → Prop} (hw : Region.wanted o (yielded ops a.tmps) = true) (ty : TypeId) (x : Operand) (ho : o.op = .load ty x)
    (g : Nat) (hx : a.eval x = .pointer (some ⟨g, 0, none⟩)) (t : TypeId) (cs : Array Value) (fr : Nat × Nat) (d : TypeDesc) (hg : w.heap[g]? = some (.cells cs t fr))
    (hu : P.underlying ty = some d) (hd : (match d with | .struct _ | .array _ _ => true | _ => false) = true) (hi : (P.info? ty).map (·.size) = some cs.size)
    (h : wpList P ops Q rest (a.put o.dst (.agg cs)) w) : wpList P ops Q (o :: rest) a w := by
  unfold wpList
  rw [if_pos hw]
  exact .inl (wp_load_row ty x ho g hx t cs fr d hg hu hd hi h)
theorem RB_row {W : World} {g : Nat} {bs : List UInt8} {fr : Nat × Nat} {t : TypeId} (h : W.heap[g]? = some (.cells (BC bs).toArray t fr)) (n : Nat) (hn : bs.length ≤ n := by decide) : RB W (.slice (some ⟨g, 0, none⟩) bs.length n) bs :=
  ⟨_, n, rfl, hn, fun _ => ⟨g, 0, rfl, fun j hj => by rw [Nat.zero_add, cell_of_row W g j _ _ _ h, List.getElem?_toArray, BC_get _ _ hj]⟩⟩
theorem row_alloc {W : World} {g : Nat} {x : Obj} (h : W.heap[g]? = some x) (o : Obj) : (W.alloc o).heap[g]? = some x := (Below.heap_alloc W o g (Array.getElem?_eq_some_iff.1 h).1).trans h
theorem parts_abc (w : World) (f1 f2 : Nat × Nat) : Parts (((w.alloc (.cells #[.int .u8 97] 5 f1)).alloc (.cells #[.int .u8 98, .int .u8 99] 5 f2)).alloc (.cells #[.slice (some ⟨w.heap.size, 0, none⟩) 1 1, .slice none 0 0, .slice (some ⟨w.heap.size + 1, 0, none⟩) 2 2] 26))
    (.slice (some ⟨w.heap.size + 1 + 1, 0, none⟩) 3 3) [.slice (some ⟨w.heap.size, 0, none⟩) 1 1, .slice none 0 0, .slice (some ⟨w.heap.size + 1, 0, none⟩) 2 2] [[97], [], [98, 99]] := by
  have h1 := row_alloc (row_alloc (heap_alloc_new w (.cells #[.int .u8 97] 5 f1)) (.cells #[.int .u8 98, .int .u8 99] 5 f2)) (.cells #[.slice (some ⟨w.heap.size, 0, none⟩) 1 1, .slice none 0 0, .slice (some ⟨w.heap.size + 1, 0, none⟩) 2 2] 26)
  have h2 := row_alloc (heap_alloc_new (w.alloc (.cells #[.int .u8 97] 5 f1)) (.cells #[.int .u8 98, .int .u8 99] 5 f2)) (.cells #[.slice (some ⟨w.heap.size, 0, none⟩) 1 1, .slice none 0 0, .slice (some ⟨w.heap.size + 1, 0, none⟩) 2 2] 26)
  have h3 := Blk.new ((w.alloc (.cells #[.int .u8 97] 5 f1)).alloc (.cells #[.int .u8 98, .int .u8 99] 5 f2)) 26 [.slice (some ⟨w.heap.size, 0, none⟩) 1 1, .slice none 0 0, .slice (some ⟨w.heap.size + 1, 0, none⟩) 2 2]
  rw [World.size_alloc] at h2
  rw [World.size_alloc, World.size_alloc] at h3
  refine ⟨⟨_, 3, rfl, Nat.le_refl 3, fun _ => ⟨w.heap.size + 1 + 1, 0, rfl, fun j hj => ?_⟩⟩, rfl, fun j hj => ?_⟩
  · rw [Nat.zero_add]
    refine (h3.cell j).trans ?_
    rw [List.getD, List.getElem?_eq_getElem hj]
    rfl
  · match j, hj with
    | 0, _ => exact RB_row (bs := [97]) h1 1
    | 1, _ => exact RB.nil _ _ _
    | 2, _ => exact RB_row (bs := [98, 99]) h2 2
/-- Arrays of the call's own that stay; a hash under way beside them. -/
def Keep (w : World) (l : List (Nat × List UInt8)) (W : World) : Prop := Only Nil w W ∧ ∀ x ∈ l, Blk W x.1 23 (BC x.2)
def KeepH (w : World) (l : List (Nat × List UInt8)) (g : Nat) (m : List UInt8) (W : World) : Prop := Keep w l W ∧ HashAt W g m ∧ (∀ x ∈ l, x.1 ≠ g) ∧ w.heap.size ≤ g
section
variable {w W W' : World} {l : List (Nat × List UInt8)} {g : Nat} {m : List UInt8}
theorem Keep.only (h : Keep w l W) (ho : Only Nil W W') : Keep w l W' := ⟨h.1.then ho, fun x hx => ho.blk (h.2 x hx) id⟩
theorem Keep.put (h : Keep w l W) (z : Array Value) (ds : List UInt8) : Keep w ((W.heap.size, ds) :: l) ((W.alloc (.cells z 23)).setRow W.heap.size (BC ds).toArray) := by
  refine ⟨(h.only (put32 W z ds).1).1, fun x hx => ?_⟩
  rcases List.mem_cons.1 hx with rfl | hx
  · exact (put32 W z ds).2
  · exact (h.only (put32 W z ds).1).2 x hx
theorem KeepH.only (h : KeepH w l g m W) (ho : Only Nil W W') : KeepH w l g m W' := ⟨h.1.only ho, h.2.1.only ho id, h.2.2⟩
theorem KeepH.put (h : KeepH w l g m W) (z : Array Value) (ds : List UInt8) : KeepH w ((W.heap.size, ds) :: l) g m ((W.alloc (.cells z 23)).setRow W.heap.size (BC ds).toArray) := by
  refine ⟨h.1.put z ds, h.2.1.only (put32 W z ds).1 id, fun x hx => ?_, h.2.2.2⟩
  rcases List.mem_cons.1 hx with rfl | hx
  · have := h.2.1.lt
    simp
    omega
  · exact h.2.2.1 x hx
theorem KeepH.wrote {W1 : World} {m' : List UInt8} (h : KeepH w l g m W) (h1 : Only Nil W W1) (hh : HashAt W' g m') (ho : Only (One g) W1 W') : KeepH w l g m' W' := by
  have hk := h.1.only h1
  exact ⟨⟨hk.1.trans ho fun i hi => .inr (by rw [hi]; exact h.2.2.2), fun x hx => ho.blk (hk.2 x hx) (h.2.2.1 x hx)⟩, hh, h.2.2⟩
theorem KeepH.hash_alloc (h : KeepH w l g m W) (o : Obj) : HashAt (W.alloc o) g m := h.2.1.only ((Only.refl Nil W).alloc o) id
theorem KeepH.blk (h : KeepH w l g m W) (b : Nat) (d : List UInt8) (hb : (b, d) ∈ l) : Blk W b 23 (BC d) := h.1.2 _ hb
theorem KeepH.fresh (h : Keep w l W) : KeepH w l W.heap.size [] (W.alloc (.cells (HC Sha.start (List.replicate 64 0) 0).toArray 75)) :=
  ⟨h.only ((Only.refl _ _).alloc _), HashAt.new W, fun x hx => Nat.ne_of_lt (h.2 x hx).lt, h.1.size⟩
end
end Go.Proofs.YthkongkbefpilaaDoor
