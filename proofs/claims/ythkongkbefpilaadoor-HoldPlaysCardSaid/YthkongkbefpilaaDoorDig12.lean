/-
  The walk of the reference's words: a block's 64 words in a row of the call's own.
-/
import Derived.Test.YthkongkbefpilaaDoorDig11
namespace Go.Proofs.YthkongkbefpilaaDoor
open Go.RowKit Sha
attribute [local go_sem] u_xor u_and u_or u_add u_shr u_shl by_conv u_shl24 u_shl16 u_shl8 u_shr3 u_shr10
theorem turn_still (x : BitVec 32) (n : Nat) (w : World) (h1 : 1 ≤ n) (h2 : n ≤ 31) :
    Calls Tryd.prog 51 #[.int .u32 (wd x), .int .i64 (n : Int)] w fun e w' => e = .returned (.int .u32 (wd (rotr x n))) ∧ ∃ k, w' = w.drewN k := turn_any x n w h1 h2
def RWords (w : World) (l : List UInt8) (t : Nat) (v : Value) (wr : World) : Prop := OW wr w.heap.size v (wordsTo l t) ∧ Only Nil w wr
theorem RWords.grow {w wr w1 w2 : World} {l : List UInt8} {t : Nat} {v : Value} {x : BitVec 32} {n g cap : Nat} (h : RWords w l t v wr) (hn : n = t) (h1 : Only Nil wr w1) (hx : wordsTo l (t + 1) = wordsTo l t ++ [x])
    (hg : Grew w1 w2 w.heap.size 71 v n 1 (WC (wordsTo l t)) (WC [x]) g cap) : RWords w l (t + 1) (.slice (some ⟨g, 0, none⟩) (t + 1) cap) w2 := by
  subst hn
  have hown := h.1
  unfold OW at hown
  rw [wordsTo_length] at hown
  refine ⟨?_, (grew_only hg hown h.2 h1 (Nat.le_refl _)).1⟩
  have := hg.own
  unfold OW
  rw [hx]
  simpa [WC, wordsTo_length] using this
theorem RWords.cell {w wr : World} {l : List UInt8} {t g n cap : Nat} (h : RWords w l t (.slice (some ⟨g, 0, none⟩) n cap) wr) {j : Nat} (hj : j < t) : wr.cell? ⟨g, j, none⟩ = some (.int .u32 (wd ((wordsTo l t).getD j 0))) := by
  have hown := h.1
  unfold OW at hown
  have := World.ownsRow.cells hown (g := g) rfl j _ (WC_get _ j (by rw [wordsTo_length]; exact hj))
  rwa [Addr.add_mid, Nat.zero_add] at this
theorem RWords.own {w wr : World} {l : List UInt8} {t : Nat} {v : Value} (h : RWords w l t v wr) : wr.ownsRow w.heap.size 71 1 v t (WC (wordsTo l t)) := by
  have hown := h.1
  unfold OW at hown
  rwa [wordsTo_length] at hown
theorem RWords.drewN {w wr : World} {l : List UInt8} {t : Nat} {v : Value} (h : RWords w l t v wr) (n : Nat) : RWords w l t v (wr.drewN n) := ⟨h.1, h.2.drewN n⟩
theorem words_off {bs : List UInt8} {w : World} {g o c : Nat} (h : RB w (.slice (some ⟨g, o, none⟩) bs.length c) bs) : ∀ j, j < bs.length → w.cell? ⟨g, o + j, none⟩ = some (.int .u8 (by8 (bs.getD j 0))) := by
  intro j hj
  obtain ⟨A, c', e, _, hr⟩ := h
  injection e with e1 e2 e3
  obtain ⟨g', o', e', hc⟩ := hr (by omega)
  rw [e'] at e1
  injection e1 with e1
  injection e1 with e1 e4
  subst e1 e4
  exact hc j hj
set_option maxHeartbeats 1600000 in
set_option maxRecDepth 100000 in
theorem rwords_any (bs : List UInt8) (v : Value) (w : World) (hv : RB w v bs) (hl : bs.length = 64) :
    Calls Tryd.prog 50 #[v] w fun e w' => ∃ v', e = .returned v' ∧ RWords w bs 64 v' w' := by
  obtain ⟨ib, hib, hbz, hbs, hbb⟩ := info_parts info_word
  obtain ⟨gb, hbb1, hgb⟩ := hv.block (by omega)
  obtain ⟨A, c, rfl, hc, hrow⟩ := hv
  obtain ⟨gb', ob, rfl, hcell⟩ := hrow (by omega)
  obtain rfl : gb' = gb := Option.some.inj hbb1
  clear hbb1 hrow
  rw [hl] at hc hcell ⊢
  have HC := Lib.hid hcell
  clear hcell
  go_enter Tryd.func50, Tryd.ntmps50
  go_wp2
  go_loopw [3, 4] (fun v i wr => ∃ t : Nat, t ≤ 16 ∧ i = .int .i64 t ∧ RWords w bs t v wr) (fun _ i _ => 16 - (intOf i).toNat)
  case atStart => exact ⟨0, Nat.zero_le _, rfl, OW.nil _ _, Only.refl _ _⟩
  case round =>
    obtain ⟨t, ht, rfl, hS⟩ := hrel
    by_cases hlt : t < 16
    · go_wp2
      have c0 := hS.2.cell (HC.out (4 * t) (by omega)) id
      have c1 := hS.2.cell (HC.out (4 * t + 1) (by omega)) id
      have c2 := hS.2.cell (HC.out (4 * t + 2) (by omega)) id
      have c3 := hS.2.cell (HC.out (4 * t + 3) (by omega)) id
      have e0 : IntKind.i64.wrap (4 * (t : Int)) = 4 * (t : Int) := IntWalk.i64_in _ (by omega)
      have e1 : IntKind.i64.wrap (4 * (t : Int) + 1) = 4 * (t : Int) + 1 := IntWalk.i64_in _ (by omega)
      have e2 : IntKind.i64.wrap (4 * (t : Int) + 2) = 4 * (t : Int) + 2 := IntWalk.i64_in _ (by omega)
      have e3 : IntKind.i64.wrap (4 * (t : Int) + 3) = 4 * (t : Int) + 3 := IntWalk.i64_in _ (by omega)
      have f0 : (4 * (t : Int)).toNat = 4 * t := by omega
      have f1 : (4 * (t : Int) + 1).toNat = 4 * t + 1 := by omega
      have f2 : (4 * (t : Int) + 2).toNat = 4 * t + 2 := by omega
      have f3 : (4 * (t : Int) + 3).toNat = 4 * t + 3 := by omega
      have g0 : 0 ≤ 4 * (t : Int) ∧ 4 * (t : Int) < 64 := by omega
      have g1 : 0 ≤ 4 * (t : Int) + 1 ∧ 4 * (t : Int) + 1 < 64 := by omega
      have g2 : 0 ≤ 4 * (t : Int) + 2 ∧ 4 * (t : Int) + 2 < 64 := by omega
      have g3 : 0 ≤ 4 * (t : Int) + 3 ∧ 4 * (t : Int) + 3 < 64 := by omega
      have hx := wordsTo_low bs t hlt
      have hown := hS.1
      unfold OW at hown
      rw [wordsTo_length] at hown
      have hsz := hS.2.size
      obtain ⟨x, hxd⟩ : ∃ x, x = packAt bs t := ⟨_, rfl⟩
      rw [← hxd] at hx
      unfold packAt at hxd
      generalize bs.getD (4 * t) 0 = b0 at *
      generalize bs.getD (4 * t + 1) 0 = b1 at *
      generalize bs.getD (4 * t + 2) 0 = b2 at *
      generalize bs.getD (4 * t + 3) 0 = b3 at *
      have HS := Lib.hid hS
      have HX := Lib.hid (hxd ▸ hx)
      have HO := Lib.hid hown
      clear hS hx hown hxd
      go_region_held3 (fun W => W.cell? ⟨gb', ob + 4 * t, none⟩ = some (.int .u8 (by8 b0)) ∧ W.cell? ⟨gb', ob + (4 * t + 1), none⟩ = some (.int .u8 (by8 b1)) ∧ W.cell? ⟨gb', ob + (4 * t + 2), none⟩ = some (.int .u8 (by8 b2)) ∧ W.cell? ⟨gb', ob + (4 * t + 3), none⟩ = some (.int .u8 (by8 b3)))
        (first
          | go_keep
          | (go_split_ands
             exact ⟨grew_cell hgrow HO.out hgb (by assumption), grew_cell hgrow HO.out hgb (by assumption), grew_cell hgrow HO.out hgb (by assumption), grew_cell hgrow HO.out hgb (by assumption)⟩))
        ((refine step_append_row (by rfl) _ _ _ (by rfl) w.heap.size 71 ib _ 4 Tryd.underlying78 hib hbz hbs hbb rfl _ t (WC (wordsTo bs t)) (by rfl) ((HO.out.alloc _).drew)
              ⟨wr.heap.size, 0, none⟩ 1 1 (WC [pack (bwd b0) (bwd b1) (bwd b2) (bwd b3)]) (by rfl) (by rfl) (news_words (Blk.new wr 71 (WC [pack (bwd b0) (bwd b1) (bwd b2) (bwd b3)])).drew) (WC_one _)
              (by omega) (by unfold maxLen; omega) (by omega) (by simp; omega) ?_; intro gg cap w2 hgrow))
      have HG := Lib.hid (HS.out.grow rfl (((Only.refl _ _).alloc _).drew) HX.out hgrow)
      clear hgrow HS HX HO c0 c1 c2 c3 e0 e1 e2 e3 f0 f1 f2 f3 g0 g1 g2 g3
      go_wp2
      go_roundw
      case rel => exact ⟨t + 1, by omega, by go_num, HG.out⟩
      case measure => simp [intOf]; omega
    · have H16 := Lib.hid (show t = 16 by omega)
      clear HC
      go_wp2
      go_loopw [3, 5] (fun v i wr => ∃ t : Nat, 16 ≤ t ∧ t ≤ 64 ∧ i = .int .i64 t ∧ RWords w bs t v wr) (fun _ i _ => 64 - (intOf i).toNat)
      case atStart => exact ⟨16, by omega, by omega, rfl, by rw [H16.out] at hS; exact hS⟩
      case round =>
        clear hS
        rename_i wr0 _ _ _ _ wr
        obtain ⟨t, ht1, ht2, rfl, hS⟩ := hrel
        obtain ⟨g, cap, rfl, hcap, hg1, hg2, _⟩ := own_form hS.own (by omega)
        by_cases hlt : t < 64
        · have c2 := hS.cell (j := t - 2) (by omega)
          have c15 := hS.cell (j := t - 15) (by omega)
          have hx : next (wordsTo bs t) t = nextOf ((wordsTo bs t).getD (t - 2) 0) ((wordsTo bs t).getD (t - 7) 0) ((wordsTo bs t).getD (t - 15) 0) ((wordsTo bs t).getD (t - 16) 0) := rfl
          have H7 := Lib.hid (WC_get (wordsTo bs t) (t - 7) (by rw [wordsTo_length]; omega))
          have H16 := Lib.hid (WC_get (wordsTo bs t) (t - 16) (by rw [wordsTo_length]; omega))
          generalize (wordsTo bs t).getD (t - 2) 0 = x2 at *
          generalize (wordsTo bs t).getD (t - 7) 0 = x7 at *
          generalize (wordsTo bs t).getD (t - 15) 0 = x15 at *
          generalize (wordsTo bs t).getD (t - 16) 0 = x16 at *
          have HX := Lib.hid hx
          have HS := Lib.hid hS
          clear hx hS
          have e2 : IntKind.i64.wrap ((t : Int) - 2) = (t : Int) - 2 := IntWalk.i64_in _ (by omega)
          have e7 : IntKind.i64.wrap ((t : Int) - 7) = (t : Int) - 7 := IntWalk.i64_in _ (by omega)
          have e15 : IntKind.i64.wrap ((t : Int) - 15) = (t : Int) - 15 := IntWalk.i64_in _ (by omega)
          have e16 : IntKind.i64.wrap ((t : Int) - 16) = (t : Int) - 16 := IntWalk.i64_in _ (by omega)
          have f2 : ((t : Int) - 2).toNat = t - 2 := by omega
          have f7 : ((t : Int) - 7).toNat = t - 7 := by omega
          have f15 : ((t : Int) - 15).toNat = t - 15 := by omega
          have f16 : ((t : Int) - 16).toNat = t - 16 := by omega
          have g2 : 0 ≤ (t : Int) - 2 ∧ (t : Int) - 2 < (t : Int) := by omega
          have g7 : 0 ≤ (t : Int) - 7 ∧ (t : Int) - 7 < (t : Int) := by omega
          have g15 : 0 ≤ (t : Int) - 15 ∧ (t : Int) - 15 < (t : Int) := by omega
          have g16 : 0 ≤ (t : Int) - 16 ∧ (t : Int) - 16 < (t : Int) := by omega
          have k2 : (2 : Int) ≤ (t : Int) := by omega
          have k7 : (7 : Int) ≤ (t : Int) := by omega
          have k15 : (15 : Int) ≤ (t : Int) := by omega
          have k16 : (16 : Int) ≤ (t : Int) := by omega
          have g4 : (t : Int) < 64 := by omega
          go_upto_region 13 with (first
            | (go_at_call 51; (with_reducible show Calls _ _ #[Value.int _ (wd x15), Value.int _ 7] _ _); refine (turn_any x15 7 _ (by omega) (by omega)).mono ?_; rintro e w' ⟨rfl, k, rfl⟩)
            | (go_at_call 51; (with_reducible show Calls _ _ #[Value.int _ (wd x15), Value.int _ 18] _ _); refine (turn_any x15 18 _ (by omega) (by omega)).mono ?_; rintro e w' ⟨rfl, k, rfl⟩)
            | (go_at_call 51; (with_reducible show Calls _ _ #[Value.int _ (wd x2), Value.int _ 17] _ _); refine (turn_any x2 17 _ (by omega) (by omega)).mono ?_; rintro e w' ⟨rfl, k, rfl⟩)
            | (go_at_call 51; (with_reducible show Calls _ _ #[Value.int _ (wd x2), Value.int _ 19] _ _); refine (turn_any x2 19 _ (by omega) (by omega)).mono ?_; rintro e w' ⟨rfl, k, rfl⟩))
          refine wp_gen (RWords w bs t (.slice (some ⟨g, 0, none⟩) t cap)) (HS.out.drewN _) ?_
          intro wq hq
          have c7 := World.ownsRow.cells hq.own (g := g) rfl _ _ H7.out
          have c16 := World.ownsRow.cells hq.own (g := g) rfl _ _ H16.out
          rw [Addr.add_mid, Nat.zero_add] at c7 c16
          have hsz := hq.2.size
          have HQ := Lib.hid hq
          clear hq HS c2 c15
          go_region_held3 (fun W => W.cell? ⟨g, t - 7, none⟩ = some (.int .u32 (wd x7)) ∧ W.cell? ⟨g, t - 16, none⟩ = some (.int .u32 (wd x16)))
            (first
              | go_keep
              | exact ⟨hgrow.old g _ _ rfl H7.out, hgrow.old g _ _ rfl H16.out⟩)
            ((refine step_append_row (by rfl) _ _ _ (by rfl) w.heap.size 71 ib _ 4 Tryd.underlying78 hib hbz hbs hbb rfl _ t (WC (wordsTo bs t)) (by rfl) ((HQ.out.own.alloc _).drew)
                  ⟨wq.heap.size, 0, none⟩ 1 1 (WC [nextOf x2 x7 x15 x16]) (by rfl) (by rfl) (news_words (Blk.new wq 71 (WC [nextOf x2 x7 x15 x16])).drew) (WC_one _)
                  (by omega) (by unfold maxLen; omega) (by omega) (by simp; omega) ?_; intro gg cap w2 hgrow))
          have HG := Lib.hid (HQ.out.grow rfl (((Only.refl _ _).alloc _).drew) (by rw [wordsTo_high bs t ht1, HX.out]) hgrow)
          clear hgrow HQ HX H7 H16 c7 c16 e2 e7 e15 e16 f2 f7 f15 f16 g2 g7 g15 g16
          go_wp2
          go_roundw
          case rel => exact ⟨t + 1, by omega, by omega, by go_num, HG.out⟩
          case measure => simp [intOf]; omega
        · obtain rfl : t = 64 := by omega
          have HS := Lib.hid hS
          clear hS
          go_wp2
          go_ret
          exact ⟨_, rfl, HS.out⟩
end Go.Proofs.YthkongkbefpilaaDoor
