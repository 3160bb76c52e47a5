/-
  DigestSums answers true for any parts and others of at most the bulk that the bounded statement names: the walk, and the given row proved.
-/
import Derived.Test.YthkongkbefpilaaRowB
import Derived.Test.YthkongkbefpilaaLent
import Derived.JoinedCond
namespace Go.Proofs.Ythkongkbefpilaa
open Go.RowKit Sha

/-- While what was lent is out: arrays of bytes stored behind it. -/
def KeepL (w : World) (base top : Nat) (v : Value) (xs : List Value) (ps : List (List UInt8)) (l : List (Nat × List UInt8)) (W : World) : Prop :=
  Only Nil w W ∧ LentOk W base top v xs ps ∧ top ≤ W.heap.size ∧ ∀ x ∈ l, top ≤ x.1 ∧ Blk W x.1 26 (BC x.2)
section
variable {w W W' : World} {base top : Nat} {v : Value} {xs : List Value} {ps : List (List UInt8)} {l : List (Nat × List UInt8)}
theorem KeepL.only (h : KeepL w base top v xs ps l W) (ho : Only Nil W W') : KeepL w base top v xs ps l W' :=
  ⟨h.1.then ho, h.2.1.only ho, Nat.le_trans h.2.2.1 ho.size, fun x hx => ⟨(h.2.2.2 x hx).1, ho.blk (h.2.2.2 x hx).2 id⟩⟩
theorem KeepL.put (h : KeepL w base top v xs ps l W) (z : Array Value) (ds : List UInt8) : KeepL w base top v xs ps ((W.heap.size, ds) :: l) ((W.alloc (.cells z 26)).setRow W.heap.size (BC ds).toArray) := by
  obtain ⟨p1, p2⟩ := put32 W z ds
  have h' := h.only p1
  refine ⟨h'.1, h'.2.1, h'.2.2.1, fun x hx => ?_⟩
  rcases List.mem_cons.1 hx with rfl | hx
  · exact ⟨h.2.2.1, p2⟩
  · exact h'.2.2.2 x hx
theorem KeepL.kept (h : KeepL w base top v xs ps l W) (hb : w.heap.size ≤ base) (ho : Only (Within base top) W W') : Keep w l W' :=
  ⟨h.1.trans ho fun i hi => .inr (Nat.le_trans hb hi.1), fun x hx => ho.blk (h.2.2.2 x hx).2 fun hi => by have := (h.2.2.2 x hx).1; have := hi.2; omega⟩
theorem Parts.cells {g : Nat} (h : Parts w v xs ps) (h0 : 0 < xs.length) (hg : blkOf v = some g) : g < w.heap.size := by
  obtain ⟨A, c, rfl, _, h⟩ := h.row
  obtain ⟨g', o, rfl, hr⟩ := h h0
  obtain rfl : g' = g := Option.some.inj hg
  exact World.block_lt_of_cell? w _ (hr 0 h0)
theorem RB.cells {g : Nat} {bs : List UInt8} (h : RB w v bs) (h0 : 0 < bs.length) (hg : blkOf v = some g) : g < w.heap.size := by
  obtain ⟨g', e, hl⟩ := h.block h0
  rw [hg] at e
  obtain rfl : g = g' := Option.some.inj e
  exact hl
end
set_option maxHeartbeats 6400000 in
set_option maxRecDepth 100000 in
theorem sums_any (v1 v2 : Value) (vs1 vs2 : List Value) (ps1 ps2 : List (List UInt8)) (w : World) (h1 : Parts w v1 vs1 ps1) (h2 : Parts w v2 vs2 ps2) (l1 : vs1.length ≤ 1000000000000000000) (l2 : vs2.length ≤ 1000000000000000000) :
    Calls Try.prog 4 #[v1, v2] w fun e w' => e = .returned (.bool true) ∧ Only Nil w w' := by
  have hz : ∀ d : List UInt8, (BC (sha d)).toArray.size = 32 := fun d => by simp [BC_length, sha_length]
  have A1 := Lib.hid (show ∀ W, Only Nil w W → Parts W v1 vs1 ps1 from fun W ho => h1.only ho)
  have A2 := Lib.hid (show ∀ W, Only Nil w W → Parts W v2 vs2 ps2 from fun W ho => h2.only ho)
  have B1 := Lib.hid (show 0 < vs1.length → ∀ g, blkOf v1 = some g → g < w.heap.size from fun h0 g hg => h1.cells h0 hg)
  have B2 := Lib.hid (show ∀ j, j < ps1.length → 0 < (ps1.getD j []).length → ∀ g, blkOf (vs1.getD j undef) = some g → g < w.heap.size from fun j hj h0 g hg => (h1.each j hj).cells h0 hg)
  clear h1 h2
  go_enter Try.func4, Try.ntmps4
  go_upto_region 4 with (go_at_call 8; refine (live_any _).mono ?_; rintro e w5 ⟨rfl, ho5⟩)
  refine wp_gen (Only Nil w) ho5 ?_
  clear ho5
  intro w2 h2
  have H2 := Lib.hid h2
  clear h2
  go_upto_region 6 with (first
    | (go_at_call 9; (with_reducible show Calls _ _ #[v1] _ _); refine (bey_any v1 vs1 ps1 _ (A1.out _ H2.out) l1).mono ?_; rintro e w6 ⟨rfl, rfl⟩)
    | (go_at_call 9; (with_reducible show Calls _ _ #[v2] _ _); refine (bey_any v2 vs2 ps2 _ (A2.out _ H2.out) l2).mono ?_; rintro e w6 ⟨rfl, rfl⟩))
  by_cases b1 : bey ps1 = true
  · rw [b1]
    go_wp2
    go_ret
    exact ⟨rfl, H2.out⟩
  by_cases b2 : bey ps2 = true
  · have b1 : bey ps1 = false := by simpa using b1
    rw [b1, b2]
    go_wp2
    go_ret
    exact ⟨rfl, H2.out⟩
  · have b1 : bey ps1 = false := by simpa using b1
    have b2 : bey ps2 = false := by simpa using b2
    have g1 := bey_false b1
    have g2 := bey_false b2
    rw [b1, b2]
    clear b1 b2
    go_upto_region 9 with (go_at_call 10; refine (lent_any v1 vs1 ps1 _ (A1.out _ H2.out) g1).mono ?_; rintro e w3 ⟨v, xs, rfl, hL, ho3⟩)
    obtain ⟨base, hbase⟩ : ∃ b, w2.heap.size = b := ⟨_, rfl⟩
    obtain ⟨top, htop⟩ : ∃ b, w3.heap.size = b := ⟨_, rfl⟩
    rw [hbase, htop] at hL
    have HB := Lib.hid (show w.heap.size ≤ base from hbase ▸ H2.out.size)
    refine wp_gen (KeepL w base top v xs ps1 []) ⟨H2.out.then ho3, hL, Nat.le_of_eq htop.symm, fun x hx => by cases hx⟩ ?_
    have HX := Lib.hid (show xs.length ≤ 1000000000000000000 by rw [hL.len]; omega)
    clear hL ho3 htop hbase H2
    intro w2 h2
    have H2 := Lib.hid h2
    clear h2
    go_upto_region 10 with (first
      | (go_at_call 11; refine (sum_any v xs ps1 _ (H2.out.2.1.parts) (by omega) HX.out).mono ?_; rintro e w3 ⟨rfl, ho3⟩)
      | ((with_reducible show wpList _ _ _ (Oper.mk _ (.store 26 _ _) _ _ _ _ :: _) _ _); refine wpList_store_row rfl 26 (.tmp 9) (.tmp 29) rfl w3.heap.size (BC (sha ps1.flatten)).toArray rfl rfl _ _ (heap_alloc_new w3 _) (by rw [hz]; kernel_rfl) (by rw [hz]; rfl) (all_oneCell_toArray (BC_one _)) ?_))
    obtain ⟨b9, hb9⟩ : ∃ b, w3.heap.size = b := ⟨_, rfl⟩
    refine wp_gen (KeepL w base top v xs ps1 [(b9, sha ps1.flatten)]) (hb9 ▸ (H2.out.only ho3).put _ _) ?_
    rw [hb9]
    clear hb9 ho3 H2
    intro w2 h2
    have H2 := Lib.hid h2
    clear h2
    go_upto_region 11 with (first
      | (go_at_call 11; refine (sum_any v2 vs2 ps2 _ (A2.out _ H2.out.1) (by omega) l2).mono ?_; rintro e w3 ⟨rfl, ho3⟩)
      | ((with_reducible show wpList _ _ _ (Oper.mk _ (.store 26 _ _) _ _ _ _ :: _) _ _); refine wpList_store_row rfl 26 (.tmp 10) (.tmp 31) rfl w3.heap.size (BC (sha ps2.flatten)).toArray rfl rfl _ _ (heap_alloc_new w3 _) (by rw [hz]; kernel_rfl) (by rw [hz]; rfl) (all_oneCell_toArray (BC_one _)) ?_))
    obtain ⟨b10, hb10⟩ : ∃ b, w3.heap.size = b := ⟨_, rfl⟩
    refine wp_gen (KeepL w base top v xs ps1 [(b10, sha ps2.flatten), (b9, sha ps1.flatten)]) (hb10 ▸ (H2.out.only ho3).put _ _) ?_
    rw [hb10]
    clear hb10 ho3 H2
    intro w2 h2
    have H2 := Lib.hid h2
    clear h2
    go_upto_region 12 with (first
      | (go_at_call 11; refine (sum_any v xs ps1 _ (H2.out.2.1.parts) (by omega) HX.out).mono ?_; rintro e w3 ⟨rfl, ho3⟩)
      | ((with_reducible show wpList _ _ _ (Oper.mk _ (.store 26 _ _) _ _ _ _ :: _) _ _); refine wpList_store_row rfl 26 (.tmp 11) (.tmp 33) rfl w3.heap.size (BC (sha ps1.flatten)).toArray rfl rfl _ _ (heap_alloc_new w3 _) (by rw [hz]; kernel_rfl) (by rw [hz]; rfl) (all_oneCell_toArray (BC_one _)) ?_))
    obtain ⟨b11, hb11⟩ : ∃ b, w3.heap.size = b := ⟨_, rfl⟩
    refine wp_gen (KeepL w base top v xs ps1 [(b11, sha ps1.flatten), (b10, sha ps2.flatten), (b9, sha ps1.flatten)]) (hb11 ▸ (H2.out.only ho3).put _ _) ?_
    rw [hb11]
    clear hb11 ho3 H2
    intro w2 h2
    have H2 := Lib.hid h2
    clear h2
    go_upto_region 13 with (first
      | (go_at_call 12; refine (kept_any v v1 xs vs1 ps1 base top _ H2.out.2.1 (A1.out _ H2.out.1) g1 (fun h0 g hg hi => by have := B1.out h0 g hg; have := hi.1; have := HB.out; omega) (fun j hj h0 g hg hi => by have := B2.out j hj h0 g hg; have := hi.1; have := HB.out; omega)).mono ?_; rintro e w3 ⟨rfl, ho3⟩))
    refine wp_gen (Keep w [(b11, sha ps1.flatten), (b10, sha ps2.flatten), (b9, sha ps1.flatten)]) (H2.out.kept HB.out ho3) ?_
    clear ho3 H2 HB HX B1 B2
    intro w2 h2
    have H4 := Lib.hid h2
    clear h2
    go_upto_region 14 with (first
      | (go_at_call 13; refine (rsum_any v1 vs1 ps1 _ (A1.out _ H4.out.1) (by omega) l1).mono ?_; rintro e w3 ⟨rfl, ho3⟩)
      | ((with_reducible show wpList _ _ _ (Oper.mk _ (.store 26 _ _) _ _ _ _ :: _) _ _); refine wpList_store_row rfl 26 (.tmp 13) (.tmp 38) rfl w3.heap.size (BC (sha ps1.flatten)).toArray rfl rfl _ _ (heap_alloc_new w3 _) (by rw [hz]; kernel_rfl) (by rw [hz]; rfl) (all_oneCell_toArray (BC_one _)) ?_))
    obtain ⟨b13, hb13⟩ : ∃ b, w3.heap.size = b := ⟨_, rfl⟩
    refine wp_gen (Keep w [(b13, sha ps1.flatten), (b11, sha ps1.flatten), (b10, sha ps2.flatten), (b9, sha ps1.flatten)]) (hb13 ▸ (H4.out.only ho3).put _ _) ?_
    rw [hb13]
    clear hb13 ho3 H4
    intro w2 h2
    have H4 := Lib.hid h2
    clear h2
    go_upto_region 15 with (first
      | (go_at_call 13; refine (rsum_any v2 vs2 ps2 _ (A2.out _ H4.out.1) (by omega) l2).mono ?_; rintro e w3 ⟨rfl, ho3⟩)
      | ((with_reducible show wpList _ _ _ (Oper.mk _ (.store 26 _ _) _ _ _ _ :: _) _ _); refine wpList_store_row rfl 26 (.tmp 14) (.tmp 40) rfl w3.heap.size (BC (sha ps2.flatten)).toArray rfl rfl _ _ (heap_alloc_new w3 _) (by rw [hz]; kernel_rfl) (by rw [hz]; rfl) (all_oneCell_toArray (BC_one _)) ?_))
    obtain ⟨b14, hb14⟩ : ∃ b, w3.heap.size = b := ⟨_, rfl⟩
    refine wp_gen (Keep w [(b14, sha ps2.flatten), (b13, sha ps1.flatten), (b11, sha ps1.flatten), (b10, sha ps2.flatten), (b9, sha ps1.flatten)]) (hb14 ▸ (H4.out.only ho3).put _ _) ?_
    rw [hb14]
    clear hb14 ho3 H4
    intro w2 h2
    have H4 := Lib.hid h2
    clear h2
    have z1 : ∀ W, (Op.equalIn 10000 26 (.agg (BC (sha ps1.flatten)).toArray) (.agg (BC (sha ps1.flatten)).toArray)).run Try.prog W = .ok true W := fun W => by rw [equal32 W _ _ (sha_length _) (sha_length _)]; simp
    have z2 : ∀ W, (Op.equalIn 10000 26 (.agg (BC (sha ps2.flatten)).toArray) (.agg (BC (sha ps2.flatten)).toArray)).run Try.prog W = .ok true W := fun W => by rw [equal32 W _ _ (sha_length _) (sha_length _)]; simp
    clear A1 A2 g1 g2 l1 l2
    go_wp2_with (first
      | ((with_reducible show wpList _ _ _ (Oper.mk _ (.load 26 (.tmp 9)) _ _ _ _ :: _) _ _); refine wpList_load_wanted (by rfl) 26 (.tmp 9) rfl b9 rfl 26 (BC (sha ps1.flatten)).toArray (0, 0) _ (H4.out.2 (b9, sha ps1.flatten) (by simp)) Try.underlying26 rfl (by rw [hz]; kernel_rfl) ?_)
      | ((with_reducible show wpList _ _ _ (Oper.mk _ (.load 26 (.tmp 13)) _ _ _ _ :: _) _ _); refine wpList_load_wanted (by rfl) 26 (.tmp 13) rfl b13 rfl 26 (BC (sha ps1.flatten)).toArray (0, 0) _ (H4.out.2 (b13, sha ps1.flatten) (by simp)) Try.underlying26 rfl (by rw [hz]; kernel_rfl) ?_)
      | ((with_reducible show wpList _ _ _ (Oper.mk _ (.load 26 (.tmp 10)) _ _ _ _ :: _) _ _); refine wpList_load_wanted (by rfl) 26 (.tmp 10) rfl b10 rfl 26 (BC (sha ps2.flatten)).toArray (0, 0) _ (H4.out.2 (b10, sha ps2.flatten) (by simp)) Try.underlying26 rfl (by rw [hz]; kernel_rfl) ?_)
      | ((with_reducible show wpList _ _ _ (Oper.mk _ (.load 26 (.tmp 14)) _ _ _ _ :: _) _ _); refine wpList_load_wanted (by rfl) 26 (.tmp 14) rfl b14 rfl 26 (BC (sha ps2.flatten)).toArray (0, 0) _ (H4.out.2 (b14, sha ps2.flatten) (by simp)) Try.underlying26 rfl (by rw [hz]; kernel_rfl) ?_)
      | ((with_reducible show wpList _ _ _ (Oper.mk _ (.load 26 (.tmp 11)) _ _ _ _ :: _) _ _); refine wpList_load_wanted (by rfl) 26 (.tmp 11) rfl b11 rfl 26 (BC (sha ps1.flatten)).toArray (0, 0) _ (H4.out.2 (b11, sha ps1.flatten) (by simp)) Try.underlying26 rfl (by rw [hz]; kernel_rfl) ?_))
    go_ret
    exact ⟨rfl, H4.out.1⟩

open Go.ChangeShapes Go.WideShapes Go.ChangeAt
section
variable {H : Type}
theorem bulk_pos (d : DataW H) : 1 ≤ Rows.uptoBulk d := by
  cases d with
  | lit l => cases l <;> simp [Rows.uptoBulk]
  | nil => simp [Rows.uptoBulk]
  | ptr d => simp [Rows.uptoBulk]
  | slice elems spare => simp [Rows.uptoBulk]
  | agg parts => simp [Rows.uptoBulk]
  | iface t d => simp [Rows.uptoBulk]
  | map entries => simp [Rows.uptoBulk]
  | held h => simp [Rows.uptoBulk]
theorem length_bulk (l : List (DataW H)) : l.length ≤ Rows.uptoBulkAll l := by
  induction l with
  | nil => simp [Rows.uptoBulkAll]
  | cons x r ih => have := bulk_pos x; simp only [Rows.uptoBulkAll, List.length_cons]; omega
theorem mem_bulk {d : DataW H} {l : List (DataW H)} (h : d ∈ l) : Rows.uptoBulk d ≤ Rows.uptoBulkAll l := by
  induction l with
  | nil => cases h
  | cons x r ih =>
    simp only [Rows.uptoBulkAll]
    rcases List.mem_cons.1 h with rfl | h
    · omega
    · have := ih h; omega
theorem dlen_bulk (d : DataW H) : dlen d ≤ Rows.uptoBulk d := by
  cases d with
  | slice elems spare => have := length_bulk elems; simp only [Rows.uptoBulk, dlen]; omega
  | _ => simp [dlen]
theorem bulk_bound {l : List (DataW H)} (hk : Rows.uptoSmall H l = true) : Rows.uptoBulkAll l ≤ 1048576 := of_decide_eq_true hk
theorem dlen_bound {l : List (DataW H)} (hk : Rows.uptoSmall H l = true) {d : DataW H} (h : d ∈ l) : dlen d ≤ 1048576 :=
  Nat.le_trans (dlen_bulk d) (Nat.le_trans (mem_bulk h) (bulk_bound hk))
end
set_option maxRecDepth 100000 in
theorem sums_lifted (os : Os) (started : os.Started) (H : Type) (enc : TypeId × Value → H) (F : Stop.Interp) :
    ReturnsInHanded {} Try.checked os 4 .any ((Rows.OpenSpec.upto Rows.digestSumsSpec).pre6 enc Try.prog Try.f4 Rows.digestSumsUptoRow.domain false) (((Rows.OpenSpec.upto Rows.digestSumsSpec).at F).post enc Try.prog Try.f4 false true false false) := by
  refine returnsInHanded_of_cond (C := Try.checked) (s := Rows.OpenSpec.upto Rows.digestSumsSpec) (k := Rows.uptoSmall) rfl Try.own started (by kernel_rfl) Try.func4
    (OpenSpec.witness (enc := enc) (C := Try.checked) (s := Rows.OpenSpec.upto Rows.digestSumsSpec) (k := Rows.uptoSmall) rfl false ⟨#[], #[.slice none 0 0, .slice none 0 0], []⟩ 8 (by kernel_rfl) (by kernel_rfl) (by kernel_rfl)
      (x := ([.nil, .nil], [], [])) (by kernel_rfl) rfl (by kernel_rfl)) ?_
  intro W base args ds gs before hval0 hW hcnd hk _
  have hval : ∀ (j : Nat) t v, Try.f4.params[j]? = some t → args[j]? = some v → Value.okWide Try.prog W .any base t v := hval0
  have hW' := hW
  obtain ⟨p, q, hA0, hV, rfl, hfz, hnd⟩ := hW
  have hA : DataW.TrodAll enc Try.prog W 0 (fun _ => true) true Try.f4.params.toList args.toList ds p := hA0
  rw [Try.params4] at hA hval
  have hA1 := hA
  obtain ⟨v0, v1, d0, d1, p0, p1, rfl, rfl, rfl, h0, h1⟩ := trodAll_two hA
  obtain ⟨rfl, rfl⟩ := trodVars_none hV
  obtain ⟨vs1, ps1, hp1, hl1⟩ := open_parts Try.underlying23 Try.underlying37 Try.underlying5 (by kernel_rfl) (by kernel_rfl) (hval 0 23 v0 rfl rfl) h0
  obtain ⟨vs2, ps2, hp2, hl2⟩ := open_parts Try.underlying23 Try.underlying37 Try.underlying5 (by kernel_rfl) (by kernel_rfl) (hval 1 23 v1 rfl rfl) h1
  clear hA0 hval0
  have hlt := hW'.lt
  have m1 := dlen_bound hk (d := d0) (by simp)
  have m2 := dlen_bound hk (d := d1) (by simp)
  refine (sums_any v0 v1 vs1 vs2 ps1 ps2 W hp1 hp2 (by omega) (by omega)).mono fun e W' ⟨he, hw⟩ => ?_
  subst he
  exact ⟨_, rfl, _, _, _, [], _, [], hW', trodAll_mk1 (shut_bool Try.underlying4 true), trodAll_stays Try.laidOut (hw.below (Nat.le_refl _) fun _ h => h.elim) (by kernel_rfl) hA1 (fun x hx => hlt x (by simpa using hx)), rfl, kept_of_only hw _, fun h => by cases h⟩
theorem sums_holds : Rows.DigestSumsUptoSaid :=
  OpenClaim.holds_of_cond 4 Try.f4 rfl rfl rfl rfl rfl rfl rfl ⟨rfl, rfl, rfl, rfl, rfl⟩ rfl rfl rfl rfl rfl (by kernel_rfl) Try.func4 (by kernel_rfl)
    (of_decide_eq_true (by kernel_rfl)) (by unfold Func.isWrapper; rw [if_neg (by decide +kernel)]; exact ⟨rfl, rfl⟩)
    (fun os started H enc _ F => sums_lifted os started H enc F)
end Go.Proofs.Ythkongkbefpilaa
