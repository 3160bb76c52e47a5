/-
  DigestWrites answers true for every script of at most the bulk that the bounded statement names: the walk, and the given row proved.
-/
import Derived.Test.YthkongkbefpilaaWritesB
import Derived.Test.YthkongkbefpilaaBulk
import Derived.JoinedCond
namespace Go.Proofs.Ythkongkbefpilaa
open Go.RowKit Sha

set_option maxHeartbeats 6400000 in
set_option maxRecDepth 100000 in
theorem writes_any (v : Value) (n : Nat) (K O : Nat → Int) (B : Nat → Value) (bs : Nat → List UInt8) (w : World) (hS : Script w v n K O B bs) (hn : n ≤ 1048576) :
    Calls Try.prog 5 #[v] w fun e w' => e = .returned (.bool true) ∧ Only Nil w w' := by
  have hz : ∀ d : List UInt8, (BC (sha d)).toArray.size = 32 := fun d => by simp [BC_length, sha_length]
  have A1 := Lib.hid (show ∀ W, Only Nil w W → Script W v n K O B bs from fun W ho => hS.only ho)
  obtain ⟨A, c, rfl, hc, hrow⟩ := hS
  have HR := Lib.hid hrow
  clear hrow hc
  go_enter Try.func5, Try.ntmps5
  go_upto_region 5 with (first
    | (go_at_call 8; refine (live_any _).mono ?_; rintro e w5 ⟨rfl, ho5⟩)
    | (go_at_call 14; refine (beyond_any _ n K O B bs _ (A1.out _ ho5) hn).mono ?_; rintro e w6 ⟨rfl, ho6⟩))
  refine wp_gen (Only Nil w) (ho5.then ho6) ?_
  clear ho5 ho6
  intro w2 h2
  have H2 := Lib.hid h2
  clear h2
  by_cases b1 : bey ((List.range n).map bs) = true
  · rw [b1]
    go_wp2
    go_ret
    exact ⟨rfl, H2.out⟩
  · have b1 : bey ((List.range n).map bs) = false := by simpa using b1
    have g1 := bey_false b1
    rw [b1]
    have hbl : ∀ j, j < n → (bs j).length + 1 ≤ 2147483647 := fun j hj => by
      have g2 : ((List.range n).map bs).length = n := by simp
      have hfl := flat_le ((List.range n).map bs) (j + 1)
      rw [flat_succ _ j (by simpa using hj), List.length_append, getD_map_range _ _ _ _ hj] at hfl
      omega
    have HBL := Lib.hid hbl
    clear b1 g1 hbl
    go_upto_region 9 with (first
      | (go_at_call 15; refine (new_any _).mono ?_; rintro e w' ⟨rfl, rfl⟩)
      | (go_at_call 16; refine (rnew_any _).mono ?_; rintro e w' ⟨rfl, rfl⟩))
    refine wp_gen (fun W => ∃ G X U V, St w (w2.heap.size + 1 + 1) (w2.heap.size + 1 + 1 + 1 + 1 + 1 + 1 + 1) G X U V (fun _ => []) (fun _ => []) W) ⟨_, _, _, _, St.start H2.out⟩ ?_
    intro w3 h3
    clear H2
    generalize w2.heap.size + 1 + 1 + 1 + 1 + 1 + 1 + 1 = gx at *
    generalize w2.heap.size + 1 + 1 = gh at *
    go_wp2
    go_loopw [7] (fun i wr => ∃ k : Nat, k ≤ n ∧ i = .int .i64 (k : Nat) ∧ ∃ G X U V M, St w gh gx G X U V M M wr ∧ ∀ i, i < 2 → (M i).length ≤ k * 2147483647) (fun i _ => n - (intOf i).toNat)
    case atStart =>
      obtain ⟨G, X, U, V, h⟩ := h3
      exact ⟨0, Nat.zero_le _, rfl, G, X, U, V, fun _ => [], h, fun _ _ => Nat.zero_le _⟩
    case round =>
      clear h3
      obtain ⟨k, hk, rfl, G, X, U, V, M, hS, hM⟩ := hrel
      by_cases hlt : k < n
      · obtain ⟨ga, oa, rfl, hcell⟩ := HR.out (by omega)
        obtain ⟨c0, c1, c2, c3⟩ := hcell k hlt
        have d0 := hS.only.cell c0 id
        have d1 := hS.only.cell c1 id
        have d2 := hS.only.cell c2 id
        have hBk := hS.only
        have HB := Lib.hid (show ∀ W, Only Nil w W → RB W (B k) (bs k) from fun W ho => c3.only ho fun _ _ => id)
        obtain ⟨A', c', ex, _⟩ := c3.form
        rw [ex] at d2 HB
        clear hcell c0 c1 c2 c3 ex hBk
        obtain ⟨q, hq2, hq⟩ := low_bit (O k)
        have HT := Lib.hid hS
        have HM := Lib.hid hM
        clear hS hM
        go_upto_region 13 with fail
        obtain ⟨b8, hb8⟩ : ∃ b, wr.heap.size = b := ⟨_, rfl⟩
        refine wp_gen (fun W => St w gh gx G X U V M M W ∧ Blk W b8 39 [.int .i64 (K k), .int .i64 (O k), .slice A' (bs k).length c']) ⟨HT.out.nil ((Only.refl _ _).alloc _), hb8 ▸ Blk.new wr _ _⟩ ?_
        rw [hb8]
        clear d0 d1 d2 HT hb8
        intro w4 h4
        have H4 := Lib.hid h4
        have e0 : w4.cell? ⟨b8, 0, none⟩ = some (.int .i64 (K k)) := h4.2.cell 0
        have e1 : w4.cell? ⟨b8, 1, none⟩ = some (.int .i64 (O k)) := h4.2.cell 1
        have e2 : w4.cell? ⟨b8, 2, none⟩ = some (.slice A' (bs k).length c') := h4.2.cell 2
        have eh := h4.1.cellH hq2
        have ex := h4.1.cellX hq2
        have hq3 : (q : Int) < 2 := by omega
        have hL := Lib.hid (HBL.out k hlt)
        have hML := Lib.hid (show (M q).length + (bs k).length ≤ (k + 1) * 2147483647 by have := HM.out q hq2; have := HBL.out k hlt; omega)
        clear h4
        generalize bs k = l at *
        by_cases k1 : K k = 1
        · rw [k1] at e0
          go_upto_region 20 with fail
          go_upto_region 21 with (go_at_call 10; refine (lent_any _ [.slice A' l.length c'] [l] _ (solo (HB.out _ H4.out.1.only)) (by have := hL.out; simp; omega)).mono ?_; rintro e w5 ⟨v, xs, rfl, hL5, ho5⟩)
          obtain ⟨base, hbase⟩ : ∃ b, (w4.alloc (.cells #[.slice A' l.length c'] 37)).heap.size = b := ⟨_, rfl⟩
          obtain ⟨top, htop⟩ : ∃ b, w5.heap.size = b := ⟨_, rfl⟩
          rw [hbase, htop] at hL5
          have hb4 : w4.heap.size ≤ base := by rw [← hbase, World.size_alloc]; omega
          have HLow := Lib.hid (H4.out.1.low.mono hb4)
          have Hb8 := Lib.hid (show b8 < base from Nat.lt_of_lt_of_le H4.out.2.lt hb4)
          have Hwb := Lib.hid (show w.heap.size ≤ base from Nat.le_trans H4.out.1.only.size hb4)
          obtain ⟨gv, cv, gq, cq, rfl, rfl, hgq, _⟩ := lent_one hL5
          have Hgq := Lib.hid hgq
          refine wp_gen (fun W => St w gh gx G X U V M M W ∧ Blk W b8 39 [.int .i64 (K k), .int .i64 (O k), .slice A' l.length c'] ∧ LentOk W base top (.slice (some ⟨gv, 0, none⟩) 1 cv) [.slice (some ⟨gq, 0, none⟩) l.length cq] [l] ∧ top ≤ W.heap.size) ⟨(H4.out.1.nil ((Only.refl _ _).alloc _)).nil ho5, ho5.blk (H4.out.2.alloc _) id, hL5, Nat.le_of_eq htop.symm⟩ ?_
          clear hL5 ho5 hbase htop hb4 H4 e0 e1 e2 eh ex hgq
          intro w5 h5
          have H5 := Lib.hid h5
          have eh := h5.1.cellH hq2
          have ev := (lent_cell h5.2.2.1).1
          clear h5
          have hrb5 := (lent_cell H5.out.2.2.1).2
          have HR5 := Lib.hid hrb5
          clear hrb5
          go_upto_region 21 with fail
          go_cut [73] from 32 to 117 (fun _ wx => St w gh gx G X U V (upd M q (M q ++ l)) M wx ∧ Blk wx b8 39 [.int .i64 (K k), .int .i64 (O k), .slice A' l.length c'] ∧ LentOk wx base top (.slice (some ⟨gv, 0, none⟩) 1 cv) [.slice (some ⟨gq, 0, none⟩) l.length cq] [l] ∧ top ≤ wx.heap.size)
          case first =>
            have hcall := write_ok (G q) (M q) l (.slice (some ⟨gq, 0, none⟩) l.length cq) w5.drew (H5.out.1.hash q hq2) HR5.out (fun _ e => by have e : some gq = some (G q) := e; injection e with e; have := (HLow.out.2.2 q hq2).1; have := Hgq.out; omega) (by have := hML.out; omega)
            go_region_law ((go_simp; go_at_call 17; refine hcall.mono ?_; rintro e w6 ⟨rfl, hh6, ho6⟩))
            all_goals
              have HE := Lib.hid (show St w gh gx G X U V (upd M q (M q ++ l)) M w6 ∧ Blk w6 b8 39 [.int .i64 (K k), .int .i64 (O k), .slice A' l.length c'] ∧ LentOk w6 base top (.slice (some ⟨gv, 0, none⟩) 1 cv) [.slice (some ⟨gq, 0, none⟩) l.length cq] [l] ∧ top ≤ w6.heap.size from by
                have hd := H5.out.1.nil (Only.refl Nil w5).drew
                obtain ⟨cs, hbk⟩ := hash_blk (hd.hash q hq2)
                exact ⟨hd.write_hash hq2 hh6 ho6, ho6.blk H5.out.2.1.drew (blk_ne H5.out.2.1 hbk (by decide)), (H5.out.2.2.1.only (Only.refl Nil w5).drew).below ho6 (fun g e => by rw [show g = G q from e]; exact (HLow.out.2.2 q hq2).1), Nat.le_trans H5.out.2.2.2 ho6.size⟩)
              clear hh6 ho6
              go_wp2_with fail
              go_meet
              exact HE.out
          case rest =>
            have H6 := Lib.hid hcut
            have e2 : wc.cell? ⟨b8, 2, none⟩ = some (.slice A' l.length c') := hcut.2.1.cell 2
            have ex := hcut.1.cellX hq2
            clear hcut H5 eh ev HR5
            have hlow2 := Lib.hid (show 0 < l.length → ∀ g, blkOf (.slice A' l.length c') = some g → g < w.heap.size from fun h0 g hg => by
              obtain ⟨g', e, hl⟩ := (HB.out w (Only.refl _ _)).block h0
              rw [hg] at e
              injection e with e
              omega)
            have hpart := Lib.hid (solo (HB.out wc H6.out.1.only))
            have hcall := kept_any (.slice (some ⟨gv, 0, none⟩) 1 cv) (.slice (some ⟨wc.heap.size, 0, none⟩) 1 1) [.slice (some ⟨gq, 0, none⟩) l.length cq] [.slice A' l.length c'] [l] base top (wc.alloc (.cells #[.slice A' l.length c'] 37)) (H6.out.2.2.1.only ((Only.refl _ _).alloc _)) hpart.out (by have := hL.out; simp; omega) (fun _ g e hi => by have e : some wc.heap.size = some g := e; injection e with e; have := hi.2; have := H6.out.2.2.2; omega) (fun j hj h0 g e hi => by obtain rfl : j = 0 := (by simpa using hj); have := hlow2.out h0 g e; have := hi.1; have := Hwb.out; omega)
            go_upto_region 23 with (go_at_call 12; refine hcall.mono ?_; rintro e w7 ⟨rfl, ho7⟩)
            refine wp_gen (fun W => St w gh gx G X U V (upd M q (M q ++ l)) M W ∧ Blk W b8 39 [.int .i64 (K k), .int .i64 (O k), .slice A' l.length c']) ⟨(H6.out.1.nil ((Only.refl _ _).alloc _)).within HLow.out Hwb.out ho7, ho7.blk (H6.out.2.1.alloc _) (fun hi => by have := hi.1; have := Hb8.out; omega)⟩ ?_
            clear ho7 H6 e2 ex hpart hcall
            intro w8 h8
            have e2 : w8.cell? ⟨b8, 2, none⟩ = some (.slice A' l.length c') := h8.2.cell 2
            have ex := h8.1.cellX hq2
            have H8 := Lib.hid h8.1
            clear h8
            go_cut [85] from 32 to 117 (fun _ wx => ∃ u v, St w gh gx G X (upd U q u) (upd V q v) (upd M q (M q ++ l)) (upd M q (M q ++ l)) wx)
            case first =>
              have hcall := rwrite_any w.heap.size (X q) (V q) (M q) (M q).length l (.slice A' l.length c') w8.drew (H8.out.ref q hq2).v (HB.out _ H8.out.only.drew) (fun h0 e => by have := hlow2.out h0 _ e; have := H8.out.lX q hq2; omega) (fun h0 g e e' => by have := hlow2.out h0 _ e'; have := (own_block (H8.out.ref q hq2).2.2 g e).1; omega) H8.out.only.size (by omega) (by have := hML.out; omega)
              go_region_law ((go_simp; go_at_call 18; refine hcall.mono ?_; rintro e w9 ⟨rfl, hw9⟩))
              all_goals
                have HE := Lib.hid ((H8.out.nil (Only.refl Nil w8).drew).write_ref hq2 hw9 (by rw [List.length_append]; omega))
                clear hw9 hcall
                go_wp2_with fail
                go_meet
                exact HE.out
            case rest =>
              obtain ⟨u, v, h9⟩ := hcut
              have H9 := Lib.hid h9
              clear h9 H8 e2 ex
              go_wp2
              go_roundw
              case rel =>
                refine ⟨k + 1, by omega, by go_num, G, X, _, _, _, H9.out, fun i hi => ?_⟩
                by_cases hiq : i = q
                · rw [hiq, upd_self, List.length_append]
                  exact hML.out
                · rw [upd_ne _ _ _ hiq]
                  exact Nat.le_trans (HM.out i hi) (Nat.mul_le_mul_right _ (Nat.le_succ k))
              case measure => simp [intOf]; omega
        · have HS4 := Lib.hid (show ∀ i, i < 2 → (M i).length ≤ (k + 1) * 2147483647 from fun i hi => Nat.le_trans (HM.out i hi) (Nat.mul_le_mul_right _ (Nat.le_succ k)))
          have hmq : (M q).length ≤ 900000000000000000 := by have := HM.out q hq2; omega
          by_cases k2 : K k = 2
          · rw [k2] at e0
            go_upto_region 28 with (first
              | (go_at_call 19; refine (hsum_any (G q) (M q) _ (H4.out.1.hash q hq2) hmq).mono ?_; rintro e w6 ⟨rfl, ho6⟩)
              | ((with_reducible show wpList _ _ _ (Oper.mk _ (.store 26 _ _) _ _ _ _ :: _) _ _); refine wpList_store_row rfl 26 (.tmp 12) (.tmp 94) rfl w6.heap.size (BC (sha (M q))).toArray rfl rfl _ _ (heap_alloc_new w6 _) (by rw [hz]; kernel_rfl) (by rw [hz]; rfl) (all_oneCell_toArray (BC_one _)) ?_))
            obtain ⟨c12, hc12⟩ : ∃ b, w6.heap.size = b := ⟨_, rfl⟩
            refine wp_gen (fun W => St w gh gx G X U V M M W ∧ Blk W c12 26 (BC (sha (M q)))) ⟨(H4.out.1.nil ho6).nil (put32 w6 _ _).1, hc12 ▸ (put32 w6 _ _).2⟩ ?_
            rw [hc12]
            clear hc12 ho6
            intro w9 h9
            have H9 := Lib.hid h9
            have ex := h9.1.cellX hq2
            clear h9
            go_upto_region 29 with (first
              | (go_at_call 20; refine (rhsum_any w.heap.size (X q) (V q) (M q) _ (H9.out.1.ref q hq2).v hmq).mono ?_; rintro e w6 ⟨rfl, ho6⟩)
              | ((with_reducible show wpList _ _ _ (Oper.mk _ (.store 26 _ _) _ _ _ _ :: _) _ _); refine wpList_store_row rfl 26 (.tmp 13) (.tmp 99) rfl w6.heap.size (BC (sha (M q))).toArray rfl rfl _ _ (heap_alloc_new w6 _) (by rw [hz]; kernel_rfl) (by rw [hz]; rfl) (all_oneCell_toArray (BC_one _)) ?_))
            obtain ⟨c13, hc13⟩ : ∃ b, w6.heap.size = b := ⟨_, rfl⟩
            refine wp_gen (fun W => St w gh gx G X U V M M W ∧ Blk W c12 26 (BC (sha (M q))) ∧ Blk W c13 26 (BC (sha (M q)))) ⟨(H9.out.1.nil ho6).nil (put32 w6 _ _).1, (put32 w6 _ _).1.blk (ho6.blk H9.out.2 id) id, hc13 ▸ (put32 w6 _ _).2⟩ ?_
            rw [hc13]
            clear hc13 ho6 H9 ex
            intro w9 h9
            have H9 := Lib.hid h9
            clear h9
            have z1 : ∀ W, (Op.equalIn 10000 26 (.agg (BC (sha (M q))).toArray) (.agg (BC (sha (M q))).toArray)).run Try.prog W = .ok true W := fun W => by rw [equal32 W _ _ (sha_length _) (sha_length _)]; simp
            clear e0 e1 e2 eh H4
            go_wp2_with (first
              | ((with_reducible show wpList _ _ _ (Oper.mk _ (.load 26 (.tmp 12)) _ _ _ _ :: _) _ _); refine wpList_load_wanted (by rfl) 26 (.tmp 12) rfl c12 rfl 26 (BC (sha (M q))).toArray (0, 0) _ H9.out.2.1 Try.underlying26 rfl (by rw [hz]; kernel_rfl) ?_)
              | ((with_reducible show wpList _ _ _ (Oper.mk _ (.load 26 (.tmp 13)) _ _ _ _ :: _) _ _); refine wpList_load_wanted (by rfl) 26 (.tmp 13) rfl c13 rfl 26 (BC (sha (M q))).toArray (0, 0) _ H9.out.2.2 Try.underlying26 rfl (by rw [hz]; kernel_rfl) ?_))
            go_roundw
            case rel => exact ⟨k + 1, by omega, by go_num, G, X, U, V, M, H9.out.1, HS4.out⟩
            case measure => simp [intOf]; omega
          · by_cases k3 : K k = 3
            · rw [k3] at e0
              go_wp2_with (first
                | (go_at_call 21; refine (len_any (G q) (M q) _ (H4.out.1.hash q hq2)).mono ?_; rintro e w6 ⟨rfl, rfl⟩)
                | (go_at_call 22; refine (rlen_any w.heap.size (X q) (V q) (M q) _ _ (H4.out.1.ref q hq2).v).mono ?_; rintro e w6 ⟨rfl, rfl⟩))
              go_roundw
              case rel => exact ⟨k + 1, by omega, by go_num, G, X, U, V, M, H4.out.1, HS4.out⟩
              case measure => simp [intOf]; omega
            · go_upto_region 18 with (go_at_call 15; refine (new_any _).mono ?_; rintro e w6 ⟨rfl, hw6⟩; have hs6 := H4.out.1.nil ((Only.refl Nil w4).alloc (.cells (HC Sha.start (List.replicate 64 0) 0).toArray 56)); rw [← hw6] at hs6; have f1 := hs6.cellH hq2; have f2 := hs6.h.free q; have HW6 := Lib.hid hw6; clear hs6 hw6)
              refine wp_gen (St w gh gx (upd G q w4.heap.size) X U V (upd M q []) M) (HW6.out ▸ H4.out.1.new_hash hq2) ?_
              clear HW6 f1 f2 e0 e1 e2 eh ex
              intro w9 h9
              have ex := h9.cellX hq2
              have H9 := Lib.hid h9
              clear h9 H4
              go_upto_region 11 with (go_at_call 16; refine (rnew_any _).mono ?_; rintro e w6 ⟨rfl, hw6⟩; have hs6 := H9.out.nil (((Only.refl Nil w9).alloc (.cells (WC Sha.start.list).toArray 52)).alloc (.cells #[.slice (some ⟨w9.heap.size, 0, none⟩) 8 8, .slice none 0 0, .int .i64 0] 45)); rw [← hw6] at hs6; have f1 := hs6.cellX hq2; have f2 := hs6.x.free q; have HW6 := Lib.hid hw6; clear hs6 hw6)
              refine wp_gen (fun W => ∃ G X U V, St w gh gx G X U V (upd M q []) (upd M q []) W) ⟨_, _, _, _, HW6.out ▸ H9.out.new_ref hq2⟩ ?_
              clear HW6 f1 f2 ex H9
              intro w7 h7
              go_wp2
              go_roundw
              case rel =>
                obtain ⟨G', X', U', V', h7⟩ := h7
                refine ⟨k + 1, by omega, by go_num, G', X', U', V', _, h7, fun i hi => ?_⟩
                by_cases hiq : i = q
                · rw [hiq, upd_self]
                  exact Nat.zero_le _
                · rw [upd_ne _ _ _ hiq]
                  exact HS4.out i hi
              case measure => simp [intOf]; omega
      · have H4 := Lib.hid hS
        have HM := Lib.hid hM
        clear hS hM
        go_wp2
        go_loopw [16] (fun j wr => ∃ m : Nat, m ≤ 2 ∧ j = .int .i64 (m : Nat) ∧ St w gh gx G X U V M M wr) (fun j _ => 2 - (intOf j).toNat)
        case atStart => exact ⟨0, Nat.zero_le _, rfl, H4.out⟩
        case round =>
          rename_i wr2
          obtain ⟨q, hq1, rfl, hS⟩ := hrel
          have hq3 : (q : Int) ≤ 2 := by omega
          have H4 := Lib.hid hS
          by_cases hq2 : q < 2
          · have eh := hS.cellH hq2
            have hq4 : (q : Int) < 2 := by omega
            have hmq : (M q).length ≤ 900000000000000000 := by have := HM.out q hq2; omega
            clear hS
            go_upto_region 42 with (first
              | (go_at_call 19; refine (hsum_any (G q) (M q) _ (H4.out.hash q hq2) hmq).mono ?_; rintro e w6 ⟨rfl, ho6⟩)
              | ((with_reducible show wpList _ _ _ (Oper.mk _ (.store 26 _ _) _ _ _ _ :: _) _ _); refine wpList_store_row rfl 26 (.tmp 17) (.tmp 131) rfl w6.heap.size (BC (sha (M q))).toArray rfl rfl _ _ (heap_alloc_new w6 _) (by rw [hz]; kernel_rfl) (by rw [hz]; rfl) (all_oneCell_toArray (BC_one _)) ?_))
            obtain ⟨c17, hc17⟩ : ∃ b, w6.heap.size = b := ⟨_, rfl⟩
            refine wp_gen (fun W => St w gh gx G X U V M M W ∧ Blk W c17 26 (BC (sha (M q)))) ⟨(H4.out.nil ho6).nil (put32 w6 _ _).1, hc17 ▸ (put32 w6 _ _).2⟩ ?_
            rw [hc17]
            clear hc17 ho6
            intro w9 h9
            have H9 := Lib.hid h9
            have ex := h9.1.cellX hq2
            clear h9
            go_upto_region 43 with (first
              | (go_at_call 20; refine (rhsum_any w.heap.size (X q) (V q) (M q) _ (H9.out.1.ref q hq2).v hmq).mono ?_; rintro e w6 ⟨rfl, ho6⟩)
              | ((with_reducible show wpList _ _ _ (Oper.mk _ (.store 26 _ _) _ _ _ _ :: _) _ _); refine wpList_store_row rfl 26 (.tmp 18) (.tmp 136) rfl w6.heap.size (BC (sha (M q))).toArray rfl rfl _ _ (heap_alloc_new w6 _) (by rw [hz]; kernel_rfl) (by rw [hz]; rfl) (all_oneCell_toArray (BC_one _)) ?_))
            obtain ⟨c18, hc18⟩ : ∃ b, w6.heap.size = b := ⟨_, rfl⟩
            refine wp_gen (fun W => St w gh gx G X U V M M W ∧ Blk W c17 26 (BC (sha (M q))) ∧ Blk W c18 26 (BC (sha (M q)))) ⟨(H9.out.1.nil ho6).nil (put32 w6 _ _).1, (put32 w6 _ _).1.blk (ho6.blk H9.out.2 id) id, hc18 ▸ (put32 w6 _ _).2⟩ ?_
            rw [hc18]
            clear hc18 ho6 H9 ex
            intro w9 h9
            have H9 := Lib.hid h9
            clear h9
            have z1 : ∀ W, (Op.equalIn 10000 26 (.agg (BC (sha (M q))).toArray) (.agg (BC (sha (M q))).toArray)).run Try.prog W = .ok true W := fun W => by rw [equal32 W _ _ (sha_length _) (sha_length _)]; simp
            have eh2 := H9.out.1.cellH hq2
            have ex := H9.out.1.cellX hq2
            have en : w9.cell? ⟨X q, 2, none⟩ = some (.int .i64 ((M q).length : Nat)) := (H9.out.1.ref q hq2).1.cell 2
            clear eh H4
            go_wp2_with (first
              | (go_at_call 21; refine (len_any (G q) (M q) _ (H9.out.1.hash q hq2)).mono ?_; rintro e w6 ⟨rfl, rfl⟩)
              | ((with_reducible show wpList _ _ _ (Oper.mk _ (.load 26 (.tmp 17)) _ _ _ _ :: _) _ _); refine wpList_load_wanted (by rfl) 26 (.tmp 17) rfl c17 rfl 26 (BC (sha (M q))).toArray (0, 0) _ H9.out.2.1 Try.underlying26 rfl (by rw [hz]; kernel_rfl) ?_)
              | ((with_reducible show wpList _ _ _ (Oper.mk _ (.load 26 (.tmp 18)) _ _ _ _ :: _) _ _); refine wpList_load_wanted (by rfl) 26 (.tmp 18) rfl c18 rfl 26 (BC (sha (M q))).toArray (0, 0) _ H9.out.2.2 Try.underlying26 rfl (by rw [hz]; kernel_rfl) ?_))
            go_roundw
            case rel => exact ⟨q + 1, by omega, by go_num, H9.out.1⟩
            case measure => simp [intOf]; omega
          · have HO := Lib.hid hS.only
            have hq4 : ¬ (q : Int) < 2 := by omega
            clear hS H4
            go_wp2
            go_ret
            exact ⟨rfl, HO.out⟩

open Go.ChangeShapes Go.WideShapes Go.ChangeAt
set_option maxRecDepth 100000 in
theorem writes_lifted (os : Os) (started : os.Started) (H : Type) (enc : TypeId × Value → H) (F : Stop.Interp) :
    ReturnsInHanded {} Try.checked os 5 .any ((Rows.OpenSpec.upto Rows.digestWritesSpec).pre6 enc Try.prog Try.f5 Rows.digestWritesUptoRow.domain false) (((Rows.OpenSpec.upto Rows.digestWritesSpec).at F).post enc Try.prog Try.f5 false true false false) := by
  refine returnsInHanded_of_cond (C := Try.checked) (s := Rows.OpenSpec.upto Rows.digestWritesSpec) (k := Rows.uptoSmall) rfl Try.own started (by kernel_rfl) Try.func5
    (OpenSpec.witness (enc := enc) (C := Try.checked) (s := Rows.OpenSpec.upto Rows.digestWritesSpec) (k := Rows.uptoSmall) rfl false ⟨#[], #[.slice none 0 0], []⟩ 8 (by kernel_rfl) (by kernel_rfl) (by kernel_rfl)
      (x := ([.nil], [], [])) (by kernel_rfl) rfl (by kernel_rfl)) ?_
  intro W base args ds gs before hval0 hW hcnd hk _
  have hval : ∀ (j : Nat) t v, Try.f5.params[j]? = some t → args[j]? = some v → Value.okWide Try.prog W .any base t v := hval0
  have hW' := hW
  obtain ⟨p, q, hA0, hV, rfl, hfz, hnd⟩ := hW
  have hA : DataW.TrodAll enc Try.prog W 0 (fun _ => true) true Try.f5.params.toList args.toList ds p := hA0
  rw [Try.params5] at hA hval
  have hA1 := hA
  obtain ⟨v0, vs1, d0, ds1, p0, ps1, hargs, rfl, rfl, h0, hA2⟩ := trodAll_cons hA
  obtain ⟨rfl, rfl, rfl⟩ := trodAll_nil hA2
  obtain rfl : args = #[v0] := Array.ext' (by simpa using hargs)
  obtain ⟨rfl, rfl⟩ := trodVars_none hV
  obtain ⟨n, K, O, B, bs, hS, hl1⟩ := open_script (hval 0 29 v0 rfl rfl) h0
  clear hA0 hval0
  have hlt := hW'.lt
  have m1 := dlen_bound hk (d := d0) (by simp)
  refine (writes_any v0 n K O B bs W hS (by omega)).mono fun e W' ⟨he, hw⟩ => ?_
  subst he
  exact ⟨_, rfl, _, _, _, [], _, [], hW', trodAll_mk1 (shut_bool Try.underlying4 true), trodAll_stays Try.laidOut (hw.below (Nat.le_refl _) fun _ h => h.elim) (by kernel_rfl) hA1 (fun x hx => hlt x (by simpa using hx)), rfl, kept_of_only hw _, fun h => by cases h⟩
theorem writes_holds : Rows.DigestWritesUptoSaid :=
  OpenClaim.holds_of_cond 5 Try.f5 rfl rfl rfl rfl rfl rfl rfl ⟨rfl, rfl, rfl, rfl, rfl⟩ rfl rfl rfl rfl rfl (by kernel_rfl) Try.func5 (by kernel_rfl)
    (of_decide_eq_true (by kernel_rfl)) (by unfold Func.isWrapper; rw [if_neg (by decide +kernel)]; exact ⟨rfl, rfl⟩)
    (fun os started H enc _ F => writes_lifted os started H enc F)
end Go.Proofs.Ythkongkbefpilaa
