/-
  The law's own helpers: awake, live.
-/
import Derived.Test.YthkongkbefpilaaDig16
import Derived.Test.YthkongkbefpilaaSha3
import Derived.Stop.BytesEq
import Derived.Lib.SmallJoins
namespace Go.Proofs.Ythkongkbefpilaa
open Go.RowKit Sha

theorem put32 (w : World) (z : Array Value) (ds : List UInt8) : Only Nil w ((w.alloc (.cells z 26)).setRow w.heap.size (BC ds).toArray) ∧ Blk ((w.alloc (.cells z 26)).setRow w.heap.size (BC ds).toArray) w.heap.size 26 (BC ds) :=
  ⟨((Only.refl _ _).alloc _).setRow (.inr (Nat.le_refl _)) _, setRow_heap _ _ z _ _ (0, 0) (heap_alloc_new w _)⟩
theorem eql32 (W : World) (x y : List UInt8) (hx : x.length = 32) (hy : y.length = 32) : (binOp .eql 26 (.agg (BC x).toArray) (.agg (BC y).toArray)).run Try.prog W = .ok (.bool (x == y)) W :=
  run_eql_bytes W 26 5 32 Try.underlying26 Try.underlying5 (fun w => by obtain ⟨ib, hib, _, hbs, _⟩ := info_parts info_byte; simp [sizeOf, typeInfo, hib, hbs]) x y hx hy
theorem parts_nil (w : World) (A : Option Addr) (c : Nat) : Parts w (.slice A 0 c) [] [] := ⟨⟨A, c, rfl, Nat.zero_le _, fun h => absurd h (by simp)⟩, rfl, fun j hj => absurd hj (by simp)⟩
theorem drop_str (bs : List UInt8) (k : Nat) : (str bs).extract k (str bs).size = str (bs.drop k) := by
  apply ByteArray.ext
  rw [ByteArray.data_extract, str_size]
  unfold str
  apply Array.toList_inj.1
  simp
  exact List.take_of_length_le (by simp)
theorem lit_conv (W : World) (C : Array Value) (n n1 g : Nat) (hn : C.size = n) (hn1 : n + 1 = n1) (hg : g = W.heap.size) :
    (convert 37 37 (.slice (some ⟨g, 0, none⟩) n n)).run Try.prog (W.alloc (.cells C 5)) = .ok (.slice (some ⟨g, 0, none⟩) n n) (W.alloc (.cells C 5 (n, n1))) := by
  subst hn hn1
  exact Joins.run_convert_bytes_const_at W 37 5 C _ _ g hg Try.underlying37 Try.underlying5
theorem unhex_text (d : List UInt8) (hd : d.length = 32) (w : World) :
    Calls Try.prog 24 #[.string (str (hex d))] w fun e w' => e = .returned (.tuple #[.agg (BC d).toArray, .int .i64 0]) ∧ Only Nil w w' := by
  obtain ⟨h1, h2⟩ := unhex_hex d hd
  obtain ⟨e1, e2⟩ := un_yes (hex d) h1
  rw [h2] at e1
  have := unhex_any (hex d) w
  rw [e1, e2] at this
  exact this
theorem unhex_short (bs : List UInt8) (hd : bs.length ≠ 64) (w : World) :
    Calls Try.prog 24 #[.string (str bs)] w fun e w' => e = .returned (.tuple #[.agg (BC zeros32).toArray, .int .i64 20]) ∧ Only Nil w w' := by
  obtain ⟨e1, e2⟩ := un_no bs (isHex_no_len bs hd)
  have := unhex_any bs w
  rw [e1, e2] at this
  exact this
theorem str_nil : str (hex (sha [])) = ⟨#[101, 51, 98, 48, 99, 52, 52, 50, 57, 56, 102, 99, 49, 99, 49, 52, 57, 97, 102, 98, 102, 52, 99, 56, 57, 57, 54, 102, 98, 57, 50, 52, 50, 55, 97, 101, 52, 49, 101, 52, 54, 52, 57, 98, 57, 51, 52, 99, 97, 52, 57, 53, 57, 57, 49, 98, 55, 56, 53, 50, 98, 56, 53, 53]⟩ := by rw [hex_nil]; rfl
theorem str_abc : str (hex (sha [97, 98, 99])) = ⟨#[98, 97, 55, 56, 49, 54, 98, 102, 56, 102, 48, 49, 99, 102, 101, 97, 52, 49, 52, 49, 52, 48, 100, 101, 53, 100, 97, 101, 50, 50, 50, 51, 98, 48, 48, 51, 54, 49, 97, 51, 57, 54, 49, 55, 55, 97, 57, 99, 98, 52, 49, 48, 102, 102, 54, 49, 102, 50, 48, 48, 49, 53, 97, 100]⟩ := by rw [hex_abc]; rfl
theorem equal32 (W : World) (x y : List UInt8) (hx : x.length = 32) (hy : y.length = 32) : (Op.equalIn 10000 26 (.agg (BC x).toArray) (.agg (BC y).toArray)).run Try.prog W = .ok (x == y) W :=
  run_equalIn_bytes W 9998 26 5 32 Try.underlying26 Try.underlying5 (fun w => by obtain ⟨ib, hib, _, hbs, _⟩ := info_parts info_byte; simp [sizeOf, typeInfo, hib, hbs]) x y hx hy
theorem wpList_load_wanted {P : Program} {ops : Array Oper} {rest : List Oper} {o : Oper} {a : Act} {w : World} {Q : Exit → Act → World → Prop} (hw : Region.wanted o (yielded ops a.tmps) = true) (ty : TypeId) (x : Operand) (ho : o.op = .load ty x)
    (g : Nat) (hx : a.eval x = .pointer (some ⟨g, 0, none⟩)) (t : TypeId) (cs : Array Value) (fr : Nat × Nat) (d : TypeDesc) (hg : w.heap[g]? = some (.cells cs t fr))
    (hu : P.underlying ty = some d) (hd : (match d with | .struct _ | .array _ _ => true | _ => false) = true) (hi : (P.info? ty).map (·.size) = some cs.size)
    (h : wpList P ops Q rest (a.put o.dst (.agg cs)) w) : wpList P ops Q (o :: rest) a w := by
  unfold wpList
  rw [if_pos hw]
  exact .inl (wp_load_row ty x ho g hx t cs fr d hg hu hd hi h)
theorem RB_row {W : World} {g : Nat} {bs : List UInt8} {fr : Nat × Nat} {t : TypeId} (h : W.heap[g]? = some (.cells (BC bs).toArray t fr)) (n : Nat) (hn : bs.length ≤ n := by decide) : RB W (.slice (some ⟨g, 0, none⟩) bs.length n) bs :=
  ⟨_, n, rfl, hn, fun _ => ⟨g, 0, rfl, fun j hj => by rw [Nat.zero_add, cell_of_row W g j _ _ _ h, List.getElem?_toArray, BC_get _ _ hj]⟩⟩
theorem row_alloc {W : World} {g : Nat} {x : Obj} (h : W.heap[g]? = some x) (o : Obj) : (W.alloc o).heap[g]? = some x := (Below.heap_alloc W o g (Array.getElem?_eq_some_iff.1 h).1).trans h
theorem parts_abc (w : World) (f1 f2 : Nat × Nat) : Parts (((w.alloc (.cells #[.int .u8 97] 5 f1)).alloc (.cells #[.int .u8 98, .int .u8 99] 5 f2)).alloc (.cells #[.slice (some ⟨w.heap.size, 0, none⟩) 1 1, .slice none 0 0, .slice (some ⟨w.heap.size + 1, 0, none⟩) 2 2] 37))
    (.slice (some ⟨w.heap.size + 1 + 1, 0, none⟩) 3 3) [.slice (some ⟨w.heap.size, 0, none⟩) 1 1, .slice none 0 0, .slice (some ⟨w.heap.size + 1, 0, none⟩) 2 2] [[97], [], [98, 99]] := by
  have h1 := row_alloc (row_alloc (heap_alloc_new w (.cells #[.int .u8 97] 5 f1)) (.cells #[.int .u8 98, .int .u8 99] 5 f2)) (.cells #[.slice (some ⟨w.heap.size, 0, none⟩) 1 1, .slice none 0 0, .slice (some ⟨w.heap.size + 1, 0, none⟩) 2 2] 37)
  have h2 := row_alloc (heap_alloc_new (w.alloc (.cells #[.int .u8 97] 5 f1)) (.cells #[.int .u8 98, .int .u8 99] 5 f2)) (.cells #[.slice (some ⟨w.heap.size, 0, none⟩) 1 1, .slice none 0 0, .slice (some ⟨w.heap.size + 1, 0, none⟩) 2 2] 37)
  have h3 := Blk.new ((w.alloc (.cells #[.int .u8 97] 5 f1)).alloc (.cells #[.int .u8 98, .int .u8 99] 5 f2)) 37 [.slice (some ⟨w.heap.size, 0, none⟩) 1 1, .slice none 0 0, .slice (some ⟨w.heap.size + 1, 0, none⟩) 2 2]
  rw [World.size_alloc] at h2
  rw [World.size_alloc, World.size_alloc] at h3
  refine ⟨⟨_, 3, rfl, Nat.le_refl 3, fun _ => ⟨w.heap.size + 1 + 1, 0, rfl, fun j hj => ?_⟩⟩, rfl, fun j hj => ?_⟩
  · rw [Nat.zero_add]
    refine (h3.cell j).trans ?_
    rw [List.getD, List.getElem?_eq_getElem hj]
    rfl
  · match j, hj with
    | 0, _ => exact RB_row (bs := [97]) h1 1
    | 1, _ => exact RB.nil _ _ _
    | 2, _ => exact RB_row (bs := [98, 99]) h2 2
/-- Arrays of the call's own that stay; a hash under way beside them. -/
def Keep (w : World) (l : List (Nat × List UInt8)) (W : World) : Prop := Only Nil w W ∧ ∀ x ∈ l, Blk W x.1 26 (BC x.2)
def KeepH (w : World) (l : List (Nat × List UInt8)) (g : Nat) (m : List UInt8) (W : World) : Prop := Keep w l W ∧ HashAt W g m ∧ (∀ x ∈ l, x.1 ≠ g) ∧ w.heap.size ≤ g
section
variable {w W W' : World} {l : List (Nat × List UInt8)} {g : Nat} {m : List UInt8}
theorem Keep.only (h : Keep w l W) (ho : Only Nil W W') : Keep w l W' := ⟨h.1.then ho, fun x hx => ho.blk (h.2 x hx) id⟩
theorem Keep.put (h : Keep w l W) (z : Array Value) (ds : List UInt8) : Keep w ((W.heap.size, ds) :: l) ((W.alloc (.cells z 26)).setRow W.heap.size (BC ds).toArray) := by
  refine ⟨(h.only (put32 W z ds).1).1, fun x hx => ?_⟩
  rcases List.mem_cons.1 hx with rfl | hx
  · exact (put32 W z ds).2
  · exact (h.only (put32 W z ds).1).2 x hx
theorem KeepH.only (h : KeepH w l g m W) (ho : Only Nil W W') : KeepH w l g m W' := ⟨h.1.only ho, h.2.1.only ho id, h.2.2⟩
theorem KeepH.put (h : KeepH w l g m W) (z : Array Value) (ds : List UInt8) : KeepH w ((W.heap.size, ds) :: l) g m ((W.alloc (.cells z 26)).setRow W.heap.size (BC ds).toArray) := by
  refine ⟨h.1.put z ds, h.2.1.only (put32 W z ds).1 id, fun x hx => ?_, h.2.2.2⟩
  rcases List.mem_cons.1 hx with rfl | hx
  · have := h.2.1.lt
    simp
    omega
  · exact h.2.2.1 x hx
theorem KeepH.wrote {W1 : World} {m' : List UInt8} (h : KeepH w l g m W) (h1 : Only Nil W W1) (hh : HashAt W' g m') (ho : Only (One g) W1 W') : KeepH w l g m' W' := by
  have hk := h.1.only h1
  exact ⟨⟨hk.1.trans ho fun i hi => .inr (by rw [hi]; exact h.2.2.2), fun x hx => ho.blk (hk.2 x hx) (h.2.2.1 x hx)⟩, hh, h.2.2⟩
theorem KeepH.hash_alloc (h : KeepH w l g m W) (o : Obj) : HashAt (W.alloc o) g m := h.2.1.only ((Only.refl Nil W).alloc o) id
theorem KeepH.blk (h : KeepH w l g m W) (b : Nat) (d : List UInt8) (hb : (b, d) ∈ l) : Blk W b 26 (BC d) := h.1.2 _ hb
theorem KeepH.fresh (h : Keep w l W) : KeepH w l W.heap.size [] (W.alloc (.cells (HC Sha.start (List.replicate 64 0) 0).toArray 56)) :=
  ⟨h.only ((Only.refl _ _).alloc _), HashAt.new W, fun x hx => Nat.ne_of_lt (h.2 x hx).lt, h.1.size⟩
end
set_option maxHeartbeats 3200000 in
set_option maxRecDepth 100000 in
theorem awake_any (w : World) : Calls Try.prog 27 #[] w fun e w' => e = .returned (.bool true) ∧ Only Nil w w' := by
  have hz : ∀ d : List UInt8, (BC (sha d)).toArray.size = 32 := fun d => by simp [BC_length, sha_length]
  go_enter Try.func27, Try.ntmps27
  go_upto_region 2 with (first
    | (go_at_call 11; refine (sum_any (.slice none 0 0) [] [] _ (parts_nil _ _ _) (by simp) (by simp)).mono ?_; rintro e w1 ⟨rfl, ho1⟩)
    | ((with_reducible show wpList _ _ _ (Oper.mk _ (.store 26 _ _) _ _ _ _ :: _) _ _); refine wpList_store_row rfl 26 (.tmp 1) (.tmp 13) rfl w1.heap.size (BC (sha [])).toArray rfl rfl _ _ (heap_alloc_new w1 _) (by rw [hz]; kernel_rfl) (by rw [hz]; rfl) (all_oneCell_toArray (BC_one _)) ?_))
  obtain ⟨b1, hb1⟩ : ∃ b, w1.heap.size = b := ⟨_, rfl⟩
  refine wp_gen (Keep w [(b1, sha [])]) (hb1 ▸ ((show Keep w [] w1 from ⟨ho1, fun _ h => by cases h⟩).put _ _)) ?_
  rw [hb1]
  clear hb1 ho1
  intro w2 h2
  have H2 := Lib.hid h2
  clear h2
  have q1 := lit_conv w2 #[.int .u8 97] 1 2 _ rfl rfl rfl
  have q2 := lit_conv (w2.alloc (.cells #[.int .u8 97] 5 (1, 2))) #[.int .u8 98, .int .u8 99] 2 3 (w2.heap.size + 1) rfl rfl (by simp)
  go_upto_region 3 with (first
    | (go_at_call 11; refine (sum_any _ _ [[97], [], [98, 99]] _ (parts_abc w2 _ _) (by decide) (by simp)).mono ?_; rintro e w3 ⟨rfl, ho3⟩)
    | ((with_reducible show wpList _ _ _ (Oper.mk _ (.store 26 _ _) _ _ _ _ :: _) _ _); refine wpList_store_row rfl 26 (.tmp 2) (.tmp 19) rfl w3.heap.size (BC (sha [97, 98, 99])).toArray rfl rfl _ _ (heap_alloc_new w3 _) (by rw [hz]; kernel_rfl) (by rw [hz]; rfl) (all_oneCell_toArray (BC_one _)) ?_))
  obtain ⟨b2, hb2⟩ : ∃ b, w3.heap.size = b := ⟨_, rfl⟩
  refine wp_gen (Keep w [(b2, sha [97, 98, 99]), (b1, sha [])]) (hb2 ▸ ((H2.out.only ((((Only.refl _ _).alloc _).alloc _).alloc _)).only ho3).put _ _) ?_
  rw [hb2]
  clear hb2 ho3 H2 q1 q2
  intro w2 h2
  have H2 := Lib.hid h2
  clear h2
  obtain ⟨g, hg⟩ : ∃ b, w2.heap.size = b := ⟨_, rfl⟩
  go_upto_region 4 with (go_at_call 15; refine (new_any _).mono ?_; rintro e w' ⟨rfl, rfl⟩)
  refine wp_gen (KeepH w [(b2, sha [97, 98, 99]), (b1, sha [])] g []) (hg ▸ KeepH.fresh H2.out) ?_
  (try rw [hg])
  clear hg H2
  intro w2 h2
  have H2 := Lib.hid h2
  clear h2
  have q1 := lit_conv w2 #[.int .u8 97, .int .u8 98] 2 3 _ rfl rfl rfl
  go_upto_region 7 with (go_at_call 17; refine (write_ok g [] [97, 98] _ _ (H2.out.hash_alloc _) (RB_row (bs := [97, 98]) (heap_alloc_new w2 _) 2) (fun _ => by have := H2.out.2.1.lt; simp [blkOf]; omega) (by simp)).mono ?_; rintro e w3 ⟨rfl, hh3, ho3⟩)
  refine wp_gen (KeepH w [(b2, sha [97, 98, 99]), (b1, sha [])] g [97, 98]) (H2.out.wrote ((Only.refl _ _).alloc _) hh3 ho3) ?_
  clear hh3 ho3 H2 q1
  intro w2 h2
  have H2 := Lib.hid h2
  clear h2
  go_upto_region 8 with (first
    | (go_at_call 19; refine (hsum_any g [97, 98] _ H2.out.2.1 (by simp)).mono ?_; rintro e w3 ⟨rfl, ho3⟩)
    | ((with_reducible show wpList _ _ _ (Oper.mk _ (.store 26 _ _) _ _ _ _ :: _) _ _); refine wpList_store_row rfl 26 (.tmp 4) (.tmp 28) rfl w3.heap.size (BC (sha [97, 98])).toArray rfl rfl _ _ (heap_alloc_new w3 _) (by rw [hz]; kernel_rfl) (by rw [hz]; rfl) (all_oneCell_toArray (BC_one _)) ?_))
  obtain ⟨b4, hb4⟩ : ∃ b, w3.heap.size = b := ⟨_, rfl⟩
  refine wp_gen (KeepH w [(b4, sha [97, 98]), (b2, sha [97, 98, 99]), (b1, sha [])] g [97, 98]) (hb4 ▸ (H2.out.only ho3).put _ _) ?_
  rw [hb4]
  clear hb4 ho3 H2
  intro w2 h2
  have H2 := Lib.hid h2
  clear h2
  have q1 := lit_conv w2 #[.int .u8 99] 1 2 _ rfl rfl rfl
  go_upto_region 9 with (go_at_call 17; refine (write_ok g [97, 98] [99] _ _ (H2.out.hash_alloc _) (RB_row (bs := [99]) (heap_alloc_new w2 _) 1) (fun _ => by have := H2.out.2.1.lt; simp [blkOf]; omega) (by simp)).mono ?_; rintro e w3 ⟨rfl, hh3, ho3⟩)
  refine wp_gen (KeepH w [(b4, sha [97, 98]), (b2, sha [97, 98, 99]), (b1, sha [])] g [97, 98, 99]) (H2.out.wrote ((Only.refl _ _).alloc _) hh3 ho3) ?_
  clear hh3 ho3 H2 q1
  intro w2 h2
  have H2 := Lib.hid h2
  clear h2
  go_upto_region 10 with (first
    | (go_at_call 19; refine (hsum_any g [97, 98, 99] _ H2.out.2.1 (by simp)).mono ?_; rintro e w3 ⟨rfl, ho3⟩)
    | ((with_reducible show wpList _ _ _ (Oper.mk _ (.store 26 _ _) _ _ _ _ :: _) _ _); refine wpList_store_row rfl 26 (.tmp 5) (.tmp 34) rfl w3.heap.size (BC (sha [97, 98, 99])).toArray rfl rfl _ _ (heap_alloc_new w3 _) (by rw [hz]; kernel_rfl) (by rw [hz]; rfl) (all_oneCell_toArray (BC_one _)) ?_))
  obtain ⟨b5, hb5⟩ : ∃ b, w3.heap.size = b := ⟨_, rfl⟩
  refine wp_gen (KeepH w [(b5, sha [97, 98, 99]), (b4, sha [97, 98]), (b2, sha [97, 98, 99]), (b1, sha [])] g [97, 98, 99]) (hb5 ▸ (H2.out.only ho3).put _ _) ?_
  rw [hb5]
  clear hb5 ho3 H2
  intro w2 h2
  have H2 := Lib.hid h2
  clear h2
  go_upto_region 12 with (first
    | (go_at_call 21; refine (len_any g [97, 98, 99] _ H2.out.2.1).mono ?_; rintro e w3 ⟨rfl, rfl⟩)
    | ((with_reducible show wpList _ _ _ (Oper.mk _ (.load 26 _) _ _ _ _ :: _) _ _); refine wpList_load_row rfl 26 (.tmp 1) rfl b1 rfl 26 (BC (sha [])).toArray (0, 0) _ (H2.out.blk b1 _ (by simp)) Try.underlying26 rfl (by rw [hz]; kernel_rfl) ?_)
    | (go_at_call 23; refine (hex_any (sha []) _ (sha_length _)).mono ?_; rintro e w4 ⟨rfl, ho4⟩))
  have h3 := H2.out.only ho4
  have H3 := Lib.hid h3
  clear h3 ho4 H2
  go_upto_region 14 with (first
    | ((with_reducible show wpList _ _ _ (Oper.mk _ (.load 26 _) _ _ _ _ :: _) _ _); refine wpList_load_row rfl 26 (.tmp 2) rfl b2 rfl 26 (BC (sha [97, 98, 99])).toArray (0, 0) _ (H3.out.blk b2 _ (by simp)) Try.underlying26 rfl (by rw [hz]; kernel_rfl) ?_)
    | (go_at_call 23; refine (hex_any (sha [97, 98, 99]) _ (sha_length _)).mono ?_; rintro e w5 ⟨rfl, ho5⟩)
    | (go_at_call 24; refine (unhex_text (sha [97, 98, 99]) (sha_length _) _).mono ?_; rintro e w6 ⟨rfl, ho6⟩)
    | ((with_reducible show wpList _ _ _ (Oper.mk _ (.store 26 _ _) _ _ _ _ :: _) _ _); refine wpList_store_row rfl 26 (.tmp 9) (.tmp 44) rfl w6.heap.size (BC (sha [97, 98, 99])).toArray rfl rfl _ _ (heap_alloc_new w6 _) (by rw [hz]; kernel_rfl) (by rw [hz]; rfl) (all_oneCell_toArray (BC_one _)) ?_))
  obtain ⟨b9, hb9⟩ : ∃ b, w6.heap.size = b := ⟨_, rfl⟩
  refine wp_gen (KeepH w [(b9, sha [97, 98, 99]), (b5, sha [97, 98, 99]), (b4, sha [97, 98]), (b2, sha [97, 98, 99]), (b1, sha [])] g [97, 98, 99]) (hb9 ▸ ((H3.out.only ho5).only ho6).put _ _) ?_
  rw [hb9]
  clear hb9 ho5 ho6 H3
  intro w2 h2
  have H2 := Lib.hid h2
  clear h2
  have hcut := drop_str (hex (sha [])) 1
  have hszh : (str (hex (sha []))).size = 64 := by rw [str_size, hex_length, sha_length]
  rw [hszh] at hcut
  go_upto_region 15 with (first
    | (go_at_call 24; refine (unhex_short ((hex (sha [])).drop 1) (by rw [List.length_drop, hex_length, sha_length]; decide) _).mono ?_; rintro e w6 ⟨rfl, ho6⟩)
    | ((with_reducible show wpList _ _ _ (Oper.mk _ (.store 26 _ _) _ _ _ _ :: _) _ _); refine wpList_store_row rfl 26 (.tmp 11) (.tmp 50) rfl w6.heap.size (BC zeros32).toArray rfl rfl _ _ (heap_alloc_new w6 _) (by kernel_rfl) (by rfl) (all_oneCell_toArray (BC_one _)) ?_))
  have H3 := Lib.hid (H2.out.only (ho6.then (put32 w6 #[] zeros32).1))
  have H4 := Lib.hid (H2.out.only ho6)
  refine wp_gen (KeepH w [(b9, sha [97, 98, 99]), (b5, sha [97, 98, 99]), (b4, sha [97, 98]), (b2, sha [97, 98, 99]), (b1, sha [])] g [97, 98, 99]) (H4.out.only (put32 w6 _ _).1) ?_
  clear H3 H4 H2 ho6 hcut hszh
  intro w2 h2
  have H2 := Lib.hid h2
  clear h2
  rw [str_nil, str_abc]
  have k2 := Lib.hid (H2.out.blk b2 (sha [97, 98, 99]) (by simp))
  have k4 := Lib.hid (H2.out.blk b4 (sha [97, 98]) (by simp))
  have k5 := Lib.hid (H2.out.blk b5 (sha [97, 98, 99]) (by simp))
  have k9 := Lib.hid (H2.out.blk b9 (sha [97, 98, 99]) (by simp))
  have ho := Lib.hid H2.out.1.1
  clear H2
  have z1 : ∀ W, (Op.equalIn 10000 26 (.agg (BC (sha [97, 98])).toArray) (.agg (BC (sha [97, 98, 99])).toArray)).run Try.prog W = .ok false W := fun W => by rw [equal32 W _ _ (sha_length _) (sha_length _), sha_ab_ne]
  have z2 : ∀ W, (Op.equalIn 10000 26 (.agg (BC (sha [97, 98, 99])).toArray) (.agg (BC (sha [97, 98, 99])).toArray)).run Try.prog W = .ok true W := fun W => by rw [equal32 W _ _ (sha_length _) (sha_length _)]; simp
  go_wp2_with (first
    | ((with_reducible show wpList _ _ _ (Oper.mk _ (.load 26 (.tmp 4)) _ _ _ _ :: _) _ _); refine wpList_load_wanted (by rfl) 26 (.tmp 4) rfl b4 rfl 26 (BC (sha [97, 98])).toArray (0, 0) _ k4.out Try.underlying26 rfl (by rw [hz]; kernel_rfl) ?_)
    | ((with_reducible show wpList _ _ _ (Oper.mk _ (.load 26 (.tmp 5)) _ _ _ _ :: _) _ _); refine wpList_load_wanted (by rfl) 26 (.tmp 5) rfl b5 rfl 26 (BC (sha [97, 98, 99])).toArray (0, 0) _ k5.out Try.underlying26 rfl (by rw [hz]; kernel_rfl) ?_)
    | ((with_reducible show wpList _ _ _ (Oper.mk _ (.load 26 (.tmp 2)) _ _ _ _ :: _) _ _); refine wpList_load_wanted (by rfl) 26 (.tmp 2) rfl b2 rfl 26 (BC (sha [97, 98, 99])).toArray (0, 0) _ k2.out Try.underlying26 rfl (by rw [hz]; kernel_rfl) ?_)
    | ((with_reducible show wpList _ _ _ (Oper.mk _ (.load 26 (.tmp 9)) _ _ _ _ :: _) _ _); refine wpList_load_wanted (by rfl) 26 (.tmp 9) rfl b9 rfl 26 (BC (sha [97, 98, 99])).toArray (0, 0) _ k9.out Try.underlying26 rfl (by rw [hz]; kernel_rfl) ?_))
  go_ret
  exact ⟨rfl, ho.out⟩
set_option maxHeartbeats 1600000 in
set_option maxRecDepth 100000 in
theorem live_any (w : World) : Calls Try.prog 8 #[] w fun e w' => e = .returned (.bool true) ∧ Only Nil w w' := by
  have hl : (str (hex zeros32)).size = 64 := by rw [str_size, hex_length]; rfl
  go_enter Try.func8, Try.ntmps8
  obtain ⟨g, hg⟩ : ∃ b, w.heap.size = b := ⟨_, rfl⟩
  go_upto_region 2 with (go_at_call 15; refine (new_any _).mono ?_; rintro e w' ⟨rfl, rfl⟩)
  refine wp_gen (KeepH w [] g []) (hg ▸ KeepH.fresh (show Keep w [] w from ⟨Only.refl _ _, fun _ h => by cases h⟩)) ?_
  (try rw [hg])
  clear hg
  intro w2 h2
  have H2 := Lib.hid h2
  clear h2
  have q1 := lit_conv w2 #[.int .u8 97] 1 2 _ rfl rfl rfl
  go_upto_region 5 with (go_at_call 17; refine (write_ok g [] [97] _ _ (H2.out.hash_alloc _) (RB_row (bs := [97]) (heap_alloc_new w2 _) 1) (fun _ => by have := H2.out.2.1.lt; simp [blkOf]; omega) (by simp)).mono ?_; rintro e w3 ⟨rfl, hh3, ho3⟩)
  refine wp_gen (KeepH w [] g [97]) (H2.out.wrote ((Only.refl _ _).alloc _) hh3 ho3) ?_
  clear hh3 ho3 H2 q1
  intro w2 h2
  have H2 := Lib.hid h2
  clear h2
  go_wp2_with (first
    | (go_at_call 21; refine (len_any g [97] _ H2.out.2.1).mono ?_; rintro e w3 ⟨rfl, rfl⟩)
    | (go_at_call 23; refine (hex_any zeros32 _ (by rfl)).mono ?_; rintro e w4 ⟨rfl, ho4⟩)
    | (go_at_call 27; refine (awake_any _).mono ?_; rintro e w5 ⟨rfl, ho5⟩))
  go_ret
  exact ⟨rfl, (H2.out.1.1.then ho4).then ho5⟩
theorem numbers_any (w : World) : Calls Try.prog 3 #[] w fun e w' => e = .returned (.bool true) ∧ Only Nil w w' := by
  go_enter Try.func3, Try.ntmps3
  go_wp2_with (go_at_call 8; refine (live_any _).mono ?_; rintro e w5 ⟨rfl, ho5⟩)
  go_ret
  exact ⟨rfl, ho5⟩
end Go.Proofs.Ythkongkbefpilaa
