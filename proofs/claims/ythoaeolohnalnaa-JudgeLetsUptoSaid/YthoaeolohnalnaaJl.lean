/-
  The statement's helper 'live': what a few calls of the judge answer.
-/
import Derived.Test.YthoaeolohnalnaaJk
namespace Go.Proofs.Ythoaeolohnalnaa
open Go.RowKit

def mid0 : List Value := .int .i64 0 :: .int .i64 0 :: .string ⟨#[]⟩ :: List.replicate 32 (.int .u8 0)
def c0 : Cfg := ⟨[2, 0, 0, 0, 0, 1], mid0, 100, .int .i64 0, .int .i64 0, 2⟩
theorem c0_ok : c0.ok := ⟨rfl, rfl, by decide⟩
def evA : Ev := ⟨2, 5, 167772165, 700, 0, 0, none, 0, []⟩
def evF : Ev := ⟨4, 5, 167772161, 0, 0, 0, none, 0, []⟩
def evH : Ev := ⟨6, 9, 0, 0, 0, 100, none, 0, []⟩
theorem c0_size : c0.cells.toArray.size = 45 := rfl
set_option maxRecDepth 100000 in
theorem simple_any (w : World) : Calls Try.prog 27 #[] w fun r w' => r = .returned (.agg c0.cells.toArray) ∧ Only Nil w w' := by
  go_enter Try.func27, Try.ntmps27
  go_wp2_with (first
    | ((with_reducible show wpList _ _ _ (Oper.mk _ (.build 23 _) _ _ _ _ :: _) _ _); refine wpList_built rfl 23 _ rfl _ (by rfl) (BC c0.mac).toArray (by kernel_rfl) ?_)
    | ((with_reducible show wpList _ _ _ (Oper.mk _ (.build 26 _) _ _ _ _ :: _) _ _); refine wpList_built rfl 26 _ rfl _ (by rfl) c0.cells.toArray (by kernel_rfl) ?_)
    | ((with_reducible show wpList _ _ _ (Oper.mk _ (.store _ _ _) _ _ _ _ :: _) _ _); refine wpList_store_row rfl 26 (.tmp 0) (.tmp 2) rfl w.heap.size c0.cells.toArray rfl rfl _ _ (heap_alloc_new w _) (by rw [c0_size]; kernel_rfl) (by rw [c0_size]; rfl) (all_oneCell_toArray c0_ok.one) ?_))
  refine bodyPost_ret (results_cell_row rfl _ _ w.heap.size 26 c0.cells.toArray (0, 0) _ rfl (setRow_heap _ _ _ _ _ _ (heap_alloc_new w _)) Try.underlying26 rfl (by rw [c0_size]; kernel_rfl)) rfl ⟨rfl, ((Only.refl _ _).alloc _).setRow (.inr (Nat.le_refl _)) _⟩
theorem says_three {a x y : Int} (h : Says c0 [evA, evF, evH] a x y) : a = -1 ∧ x = 0 ∧ y = 0 := by
  rcases h with ⟨_, h1, h2, h3⟩ | ⟨k, hk, _, hne, _⟩
  · exact ⟨h1, h2, h3⟩
  · exfalso
    match k, hk with
    | 0, _ => exact hne (by decide +kernel)
    | 1, _ => exact hne (by decide +kernel)
    | 2, _ => exact hne (by decide +kernel)
theorem says_one {a x y : Int} (h : Says c0 [evF] a x y) : a = 0 ∧ x = 9 ∧ y = 270 := by
  rcases h with ⟨h0, _⟩ | ⟨k, hk, _, hne, h1, h2, h3⟩
  · exfalso
    have h00 := h0 0 (by decide)
    have h9 : ruP c0 [evF] 0 = 9 := by decide +kernel
    omega
  · obtain rfl : k = 0 := by simpa using hk
    have h9 : ruP c0 [evF] 0 = 9 := by decide +kernel
    exact ⟨h1, h2.trans h9, h3⟩
theorem phs_three : phTo [evA, evF, evH] 3 = some ([1, 2, 3], false, true) := by decide +kernel
theorem evs_three (w : World) : Evs (w.alloc (.cells (evA.cells ++ evF.cells ++ evH.cells).toArray 48)) (.slice (some ⟨w.heap.size, 0, none⟩) 3 3) [evA, evF, evH] := by
  refine ⟨_, 3, rfl, Nat.le_refl _, fun _ => ⟨w.heap.size, 0, rfl, fun j hj => ⟨fun i hi => ?_, ?_⟩⟩⟩
  · have h := (Blk.new w 48 (evA.cells ++ evF.cells ++ evH.cells)).cell (j * 7 + i)
    rw [Nat.zero_add, h]
    match j, hj with
    | 0, _ => match i, hi with
      | 0, _ => rfl
      | 1, _ => rfl
      | 2, _ => rfl
      | 3, _ => rfl
      | 4, _ => rfl
      | 5, _ => rfl
      | 6, _ => rfl
    | 1, _ => match i, hi with
      | 0, _ => rfl
      | 1, _ => rfl
      | 2, _ => rfl
      | 3, _ => rfl
      | 4, _ => rfl
      | 5, _ => rfl
      | 6, _ => rfl
    | 2, _ => match i, hi with
      | 0, _ => rfl
      | 1, _ => rfl
      | 2, _ => rfl
      | 3, _ => rfl
      | 4, _ => rfl
      | 5, _ => rfl
      | 6, _ => rfl
  · match j, hj with
    | 0, _ => exact ⟨by decide, by decide, RB.nil _ _ _⟩
    | 1, _ => exact ⟨by decide, by decide, RB.nil _ _ _⟩
    | 2, _ => exact ⟨by decide, by decide, RB.nil _ _ _⟩
theorem evs_one (w : World) : Evs (w.alloc (.cells evF.cells.toArray 48)) (.slice (some ⟨w.heap.size, 0, none⟩) 1 1) [evF] := by
  refine ⟨_, 1, rfl, Nat.le_refl _, fun _ => ⟨w.heap.size, 0, rfl, fun j hj => ⟨fun i hi => ?_, ?_⟩⟩⟩
  · obtain rfl : j = 0 := by simpa using hj
    have h := (Blk.new w 48 evF.cells).cell i
    simp only [Nat.zero_add, Nat.zero_mul]
    rw [h]
    rfl
  · obtain rfl : j = 0 := by simpa using hj
    exact ⟨by decide, by decide, RB.nil _ _ _⟩
set_option maxHeartbeats 3200000 in
set_option maxRecDepth 100000 in
theorem live_any (w : World) : Calls Try.prog 11 #[] w fun r w' => r = .returned (.bool true) ∧ Only Nil w w' := by
  go_enter Try.func11, Try.ntmps11
  go_upto_region 2 with (first
    | (go_at_call 27; refine (simple_any _).mono ?_; rintro r w1 ⟨rfl, ho1⟩)
    | ((with_reducible show wpList _ _ _ (Oper.mk _ (.store _ _ _) _ _ _ _ :: _) _ _); refine wpList_store_row rfl 26 (.tmp 1) (.tmp 13) rfl w1.heap.size c0.cells.toArray rfl rfl _ _ (heap_alloc_new w1 _) (by rw [c0_size]; kernel_rfl) (by rw [c0_size]; rfl) (all_oneCell_toArray c0_ok.one) ?_))
  obtain ⟨b1, hb1⟩ : ∃ b, w1.heap.size = b := ⟨_, rfl⟩
  refine wp_gen (fun W => Only Nil w W ∧ Blk W b1 26 c0.cells) ⟨(ho1.alloc _).setRow (.inr ho1.size) _, hb1 ▸ setRow_heap _ _ _ _ _ _ (heap_alloc_new w1 _)⟩ ?_
  rw [hb1]
  clear hb1 ho1
  intro w2 h2
  have H2 := Lib.hid h2
  clear h2
  go_upto_region 5 with fail
  obtain ⟨b2, hb2⟩ : ∃ b, w2.heap.size = b := ⟨_, rfl⟩
  refine wp_gen (fun W => Only Nil w W ∧ Blk W b1 26 c0.cells ∧ Blk W b2 48 evA.cells ∧ Blk W (b2 + 1) 48 evF.cells ∧ Blk W (b2 + 1 + 1) 48 evH.cells) ⟨((H2.out.1.alloc _).alloc _).alloc _, ((H2.out.2.alloc _).alloc _).alloc _, hb2 ▸ ((Blk.new w2 48 evA.cells).alloc _).alloc _, by
      have := (Blk.new (w2.alloc (.cells evA.cells.toArray 48)) 48 evF.cells).alloc (.cells evH.cells.toArray 48)
      rw [World.size_alloc, hb2] at this
      exact this, by
      have := Blk.new ((w2.alloc (.cells evA.cells.toArray 48)).alloc (.cells evF.cells.toArray 48)) 48 evH.cells
      rw [World.size_alloc, World.size_alloc, hb2] at this
      exact this⟩ ?_
  rw [hb2]
  clear hb2 H2
  intro w3 h3
  have qA0 : w3.cell? ⟨b2, 0, none⟩ = some (.int .i64 2) := h3.2.2.1.cell 0
  have qA1 : w3.cell? ⟨b2, 1, none⟩ = some (.int .i64 5) := h3.2.2.1.cell 1
  have qA2 : w3.cell? ⟨b2, 2, none⟩ = some (.int .u32 167772165) := h3.2.2.1.cell 2
  have qA3 : w3.cell? ⟨b2, 3, none⟩ = some (.int .i64 700) := h3.2.2.1.cell 3
  have qA4 : w3.cell? ⟨b2, 4, none⟩ = some (.int .i64 0) := h3.2.2.1.cell 4
  have qA5 : w3.cell? ⟨b2, 5, none⟩ = some (.int .i64 0) := h3.2.2.1.cell 5
  have qA6 : w3.cell? ⟨b2, 6, none⟩ = some (.slice none 0 0) := h3.2.2.1.cell 6
  have qF0 : w3.cell? ⟨b2 + 1, 0, none⟩ = some (.int .i64 4) := h3.2.2.2.1.cell 0
  have qF1 : w3.cell? ⟨b2 + 1, 1, none⟩ = some (.int .i64 5) := h3.2.2.2.1.cell 1
  have qF2 : w3.cell? ⟨b2 + 1, 2, none⟩ = some (.int .u32 167772161) := h3.2.2.2.1.cell 2
  have qF3 : w3.cell? ⟨b2 + 1, 3, none⟩ = some (.int .i64 0) := h3.2.2.2.1.cell 3
  have qF4 : w3.cell? ⟨b2 + 1, 4, none⟩ = some (.int .i64 0) := h3.2.2.2.1.cell 4
  have qF5 : w3.cell? ⟨b2 + 1, 5, none⟩ = some (.int .i64 0) := h3.2.2.2.1.cell 5
  have qF6 : w3.cell? ⟨b2 + 1, 6, none⟩ = some (.slice none 0 0) := h3.2.2.2.1.cell 6
  have qH0 : w3.cell? ⟨b2 + 1 + 1, 0, none⟩ = some (.int .i64 6) := h3.2.2.2.2.cell 0
  have qH1 : w3.cell? ⟨b2 + 1 + 1, 1, none⟩ = some (.int .i64 9) := h3.2.2.2.2.cell 1
  have qH2 : w3.cell? ⟨b2 + 1 + 1, 2, none⟩ = some (.int .u32 0) := h3.2.2.2.2.cell 2
  have qH3 : w3.cell? ⟨b2 + 1 + 1, 3, none⟩ = some (.int .i64 0) := h3.2.2.2.2.cell 3
  have qH4 : w3.cell? ⟨b2 + 1 + 1, 4, none⟩ = some (.int .i64 0) := h3.2.2.2.2.cell 4
  have qH5 : w3.cell? ⟨b2 + 1 + 1, 5, none⟩ = some (.int .i64 100) := h3.2.2.2.2.cell 5
  have qH6 : w3.cell? ⟨b2 + 1 + 1, 6, none⟩ = some (.slice none 0 0) := h3.2.2.2.2.cell 6
  have H3 := Lib.hid h3
  clear h3
  go_upto_region 6 with (first
    | ((with_reducible show wpList _ _ _ (Oper.mk _ (.load 26 _) _ _ _ _ :: _) _ _); refine wpList_load_row rfl 26 (.tmp 1) rfl b1 rfl 26 c0.cells.toArray (0, 0) _ H3.out.2.1 Try.underlying26 rfl (by rw [c0_size]; kernel_rfl) ?_)
    | (go_at_call 12; refine (judge_any c0 _ [evA, evF, evH] _ c0_ok (evs_three w3) (by decide)).mono ?_; rintro r w4 ⟨⟨a1, x1, y1, rfl, hs1⟩, ho4⟩))
  obtain ⟨rfl, rfl, rfl⟩ := says_three hs1
  have ho4 := ((Only.refl Nil w3).alloc (.cells (evA.cells ++ evF.cells ++ evH.cells).toArray 48)).then ho4
  refine wp_gen (fun W => Only Nil w W ∧ Blk W b1 26 c0.cells ∧ Blk W b2 48 evA.cells ∧ Blk W (b2 + 1) 48 evF.cells ∧ Blk W (b2 + 1 + 1) 48 evH.cells) ⟨H3.out.1.then ho4, ho4.blk H3.out.2.1 id, ho4.blk H3.out.2.2.1 id, ho4.blk H3.out.2.2.2.1 id, ho4.blk H3.out.2.2.2.2 id⟩ ?_
  clear H3 ho4 hs1 qA0 qA1 qA2 qA3 qA4 qA5 qA6 qF0 qF1 qF2 qF3 qF4 qF5 qF6 qH0 qH1 qH2 qH3 qH4 qH5 qH6
  intro w3 h3
  have qF0 : w3.cell? ⟨b2 + 1, 0, none⟩ = some (.int .i64 4) := h3.2.2.2.1.cell 0
  have qF1 : w3.cell? ⟨b2 + 1, 1, none⟩ = some (.int .i64 5) := h3.2.2.2.1.cell 1
  have qF2 : w3.cell? ⟨b2 + 1, 2, none⟩ = some (.int .u32 167772161) := h3.2.2.2.1.cell 2
  have qF3 : w3.cell? ⟨b2 + 1, 3, none⟩ = some (.int .i64 0) := h3.2.2.2.1.cell 3
  have qF4 : w3.cell? ⟨b2 + 1, 4, none⟩ = some (.int .i64 0) := h3.2.2.2.1.cell 4
  have qF5 : w3.cell? ⟨b2 + 1, 5, none⟩ = some (.int .i64 0) := h3.2.2.2.1.cell 5
  have qF6 : w3.cell? ⟨b2 + 1, 6, none⟩ = some (.slice none 0 0) := h3.2.2.2.1.cell 6
  have H3 := Lib.hid h3
  clear h3
  go_upto_region 7 with (first
    | ((with_reducible show wpList _ _ _ (Oper.mk _ (.load 26 _) _ _ _ _ :: _) _ _); refine wpList_load_row rfl 26 (.tmp 1) rfl b1 rfl 26 c0.cells.toArray (0, 0) _ H3.out.2.1 Try.underlying26 rfl (by rw [c0_size]; kernel_rfl) ?_)
    | (go_at_call 12; refine (judge_any c0 _ [evF] _ c0_ok (evs_one w3) (by decide)).mono ?_; rintro r w4 ⟨⟨a1, x1, y1, rfl, hs1⟩, ho4⟩))
  obtain ⟨rfl, rfl, rfl⟩ := says_one hs1
  have ho4 := ((Only.refl Nil w3).alloc (.cells evF.cells.toArray 48)).then ho4
  refine wp_gen (fun W => Only Nil w W ∧ Blk W b1 26 c0.cells ∧ Blk W b2 48 evA.cells ∧ Blk W (b2 + 1) 48 evF.cells ∧ Blk W (b2 + 1 + 1) 48 evH.cells) ⟨H3.out.1.then ho4, ho4.blk H3.out.2.1 id, ho4.blk H3.out.2.2.1 id, ho4.blk H3.out.2.2.2.1 id, ho4.blk H3.out.2.2.2.2 id⟩ ?_
  clear H3 ho4 hs1 qF0 qF1 qF2 qF3 qF4 qF5 qF6
  intro w3 h3
  have qA0 : w3.cell? ⟨b2, 0, none⟩ = some (.int .i64 2) := h3.2.2.1.cell 0
  have qA1 : w3.cell? ⟨b2, 1, none⟩ = some (.int .i64 5) := h3.2.2.1.cell 1
  have qA2 : w3.cell? ⟨b2, 2, none⟩ = some (.int .u32 167772165) := h3.2.2.1.cell 2
  have qA3 : w3.cell? ⟨b2, 3, none⟩ = some (.int .i64 700) := h3.2.2.1.cell 3
  have qA4 : w3.cell? ⟨b2, 4, none⟩ = some (.int .i64 0) := h3.2.2.1.cell 4
  have qA5 : w3.cell? ⟨b2, 5, none⟩ = some (.int .i64 0) := h3.2.2.1.cell 5
  have qA6 : w3.cell? ⟨b2, 6, none⟩ = some (.slice none 0 0) := h3.2.2.1.cell 6
  have qF0 : w3.cell? ⟨b2 + 1, 0, none⟩ = some (.int .i64 4) := h3.2.2.2.1.cell 0
  have qF1 : w3.cell? ⟨b2 + 1, 1, none⟩ = some (.int .i64 5) := h3.2.2.2.1.cell 1
  have qF2 : w3.cell? ⟨b2 + 1, 2, none⟩ = some (.int .u32 167772161) := h3.2.2.2.1.cell 2
  have qF3 : w3.cell? ⟨b2 + 1, 3, none⟩ = some (.int .i64 0) := h3.2.2.2.1.cell 3
  have qF4 : w3.cell? ⟨b2 + 1, 4, none⟩ = some (.int .i64 0) := h3.2.2.2.1.cell 4
  have qF5 : w3.cell? ⟨b2 + 1, 5, none⟩ = some (.int .i64 0) := h3.2.2.2.1.cell 5
  have qF6 : w3.cell? ⟨b2 + 1, 6, none⟩ = some (.slice none 0 0) := h3.2.2.2.1.cell 6
  have qH0 : w3.cell? ⟨b2 + 1 + 1, 0, none⟩ = some (.int .i64 6) := h3.2.2.2.2.cell 0
  have qH1 : w3.cell? ⟨b2 + 1 + 1, 1, none⟩ = some (.int .i64 9) := h3.2.2.2.2.cell 1
  have qH2 : w3.cell? ⟨b2 + 1 + 1, 2, none⟩ = some (.int .u32 0) := h3.2.2.2.2.cell 2
  have qH3 : w3.cell? ⟨b2 + 1 + 1, 3, none⟩ = some (.int .i64 0) := h3.2.2.2.2.cell 3
  have qH4 : w3.cell? ⟨b2 + 1 + 1, 4, none⟩ = some (.int .i64 0) := h3.2.2.2.2.cell 4
  have qH5 : w3.cell? ⟨b2 + 1 + 1, 5, none⟩ = some (.int .i64 100) := h3.2.2.2.2.cell 5
  have qH6 : w3.cell? ⟨b2 + 1 + 1, 6, none⟩ = some (.slice none 0 0) := h3.2.2.2.2.cell 6
  have H3 := Lib.hid h3
  clear h3
  go_upto_region 8 with (go_at_call 16; refine (phases_any _ [evA, evF, evH] _ (evs_three w3) (by decide)).mono ?_; rintro r w4 ⟨⟨v1, y1, rfl, hs1⟩, ho4⟩)
  have hO := (H3.out.1.then ((Only.refl Nil w3).alloc (.cells (evA.cells ++ evF.cells ++ evH.cells).toArray 48))).then ho4
  rcases hs1 with ⟨hno, _⟩ | ⟨out, u, o, hsome, hown, rfl⟩
  · exact absurd (hno.symm.trans phs_three) (by simp)
  have he : (out, u, o) = ([1, 2, 3], false, true) := Option.some.inj (hsome.symm.trans phs_three)
  obtain ⟨rfl, rfl, rfl⟩ : out = [1, 2, 3] ∧ u = false ∧ o = true := by simpa using he
  obtain ⟨gp, cp, rfl, _, _, _, hcl⟩ := own_form hown (by decide)
  have p0 : w4.cell? ⟨gp, 0, none⟩ = some (.int .i64 1) := hcl 0 (by decide)
  have p1 : w4.cell? ⟨gp, 1, none⟩ = some (.int .i64 2) := hcl 1 (by decide)
  have p2 : w4.cell? ⟨gp, 2, none⟩ = some (.int .i64 3) := hcl 2 (by decide)
  have HO := Lib.hid hO
  clear hO hsome he hown hcl ho4 H3 qA0 qA1 qA2 qA3 qA4 qA5 qA6 qF0 qF1 qF2 qF3 qF4 qF5 qF6 qH0 qH1 qH2 qH3 qH4 qH5 qH6
  go_wp2
  go_ret
  exact ⟨rfl, HO.out⟩
end Go.Proofs.Ythoaeolohnalnaa
