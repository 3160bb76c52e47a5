/-
  DigestJoined answers true for every slice of bytes, every two cuts, every digest and every text: the walk, and the given row proved.
-/
import Derived.Test.YthkongkbefpilaaRowB
import Derived.Test.YthkongkbefpilaaCut
namespace Go.Proofs.Ythkongkbefpilaa
open Go.RowKit Sha

theorem one_part {w : World} {v : Value} {bs : List UInt8} (h : RB w v bs) : Parts (w.alloc (.cells #[v] 37)) (.slice (some ⟨w.heap.size, 0, none⟩) 1 1) [v] [bs] := by
  refine ⟨⟨_, 1, rfl, Nat.le_refl 1, fun _ => ⟨w.heap.size, 0, rfl, fun j hj => ?_⟩⟩, rfl, fun j hj => ?_⟩
  · obtain rfl : j = 0 := by simpa using hj
    exact (Blk.new w 37 [v]).cell 0
  · obtain rfl : j = 0 := by simpa using hj
    exact h.alloc _
theorem four_parts {w : World} {v1 v2 v3 v4 : Value} {b1 b2 b3 b4 : List UInt8} (h1 : RB w v1 b1) (h2 : RB w v2 b2) (h3 : RB w v3 b3) (h4 : RB w v4 b4) : Parts (w.alloc (.cells #[v1, v2, v3, v4] 37)) (.slice (some ⟨w.heap.size, 0, none⟩) 4 4) [v1, v2, v3, v4] [b1, b2, b3, b4] := by
  refine ⟨⟨_, 4, rfl, Nat.le_refl 4, fun _ => ⟨w.heap.size, 0, rfl, fun j hj => ?_⟩⟩, rfl, fun j hj => ?_⟩
  · rw [Nat.zero_add]
    refine ((Blk.new w 37 [v1, v2, v3, v4]).cell j).trans ?_
    rw [List.getD, List.getElem?_eq_getElem hj]
    rfl
  · match j, hj with
    | 0, _ => exact h1.alloc _
    | 1, _ => exact h2.alloc _
    | 2, _ => exact h3.alloc _
    | 3, _ => exact h4.alloc _
theorem four_at {w : World} {v1 v2 v3 v4 : Value} {b1 b2 b3 b4 : List UInt8} (h1 : RB w v1 b1) (h2 : RB w v2 b2) (h3 : RB w v3 b3) (h4 : RB w v4 b4) (g : Nat) (hg : g = w.heap.size) : Parts (w.alloc (.cells #[v1, v2, v3, v4] 37)).drew (.slice (some ⟨g, 0, none⟩) 4 4) [v1, v2, v3, v4] [b1, b2, b3, b4] := by
  subst hg
  exact (four_parts h1 h2 h3 h4).only (Only.refl _ _).drew
theorem store32 {W : World} {g : Nat} {z : Array Value} {ds : List UInt8} (hg : W.heap[g]? = some (.cells z 26 (0, 0))) (hz : z.size = 32) (hd : ds.length = 32) : (storeCells ⟨g, 0, none⟩ (BC ds)).run Try.prog W = .ok () (W.setRow g (BC ds).toArray) := by
  have := run_storeCells_from (P := Try.prog) g 26 (BC ds) 0 z W hg (by rw [BC_length, hd, hz]) (BC_one ds)
  simpa using this
theorem Keep.fill {w w4 W : World} {l : List (Nat × List UInt8)} {b : Nat} {zs : List Value} {ds : List UInt8} (h4 : Keep w l w4) (hw : Only Nil w4 W) (hb4 : w4.heap.size ≤ b) (hb : Blk W b 26 zs) : Keep w ((b, ds) :: l) (W.setRow b (BC ds).toArray) := by
  have hk := h4.only hw
  have := h4.1.size
  refine ⟨hk.1.setRow (.inr (by omega)) _, fun x hx => ?_⟩
  rcases List.mem_cons.1 hx with rfl | hx
  · exact hb.row _
  · exact (hk.2 x hx).rowFar (fun e => by have := (h4.2 x hx).lt; omega) _
theorem un_len (bs : List UInt8) : (un bs).length = 32 := by
  unfold un
  split
  · exact unhex_length bs
  · rfl
set_option maxHeartbeats 6400000 in
set_option maxRecDepth 100000 in
theorem joined_any (v : Value) (bs : List UInt8) (i k : Int) (d s : List UInt8) (w : World) (hb : RB w v bs) (hd : d.length = 32) :
    Calls Try.prog 7 #[v, .int .i64 i, .int .i64 k, .agg (BC d).toArray, .string (str s)] w fun e w' => e = .returned (.bool true) ∧ Only Nil w w' := by
  have hn : (BC d).toArray.size = 32 := by simp [BC_length, hd]
  obtain ⟨A, c, rfl, hc⟩ := hb.form
  have HB := Lib.hid hb
  clear hb
  go_enter Try.func7, Try.ntmps7
  obtain ⟨b8, hb8⟩ : ∃ b, w.heap.size = b := ⟨_, rfl⟩
  go_upto_region 1 with fail
  refine wp_gen (Keep w [(b8, d)]) ⟨(Only.refl _ _).alloc _, fun x hx => by obtain rfl := List.mem_singleton.1 hx; exact hb8 ▸ Blk.new w _ _⟩ ?_
  (try rw [hb8])
  clear hb8
  intro w2 h2
  have H2 := Lib.hid h2
  clear h2
  go_upto_region 4 with (go_at_call 8; refine (live_any _).mono ?_; rintro e w5 ⟨rfl, ho5⟩)
  have H3 := Lib.hid (H2.out.only ho5)
  clear H2 ho5
  go_upto_region 5 with (go_at_call 9; refine (bey_any _ [.slice A bs.length c] [bs] _ (one_part (HB.out.only H3.out.1 fun _ _ => id)) (by simp)).mono ?_; rintro e w6 ⟨rfl, rfl⟩)
  have H4 := Lib.hid (H3.out.only ((Only.refl Nil w5).alloc (.cells #[.slice A bs.length c] 37)))
  clear H3
  generalize w5.alloc _ = w6 at *
  by_cases hbey : bey [bs] = true
  · rw [hbey]
    go_wp2
    go_ret
    exact ⟨rfl, H4.out.1⟩
  · have hbf : bey [bs] = false := by simpa using hbey
    have hlen := bey_false hbf
    have hlen2 : bs.length ≤ 2147483647 := by simp at hlen; omega
    rw [hbf]
    clear hbey hbf hlen
    have hn0 : (0 : Int) ≤ (bs.length : Int) := by omega
    have hn1 : (bs.length : Int) ≤ 2147483647 := by omega
    go_upto_region 7 with fail
    go_cut [40] (fun t wx => t = .bool (decide (i < 0 ∨ (bs.length : Int) < i)) ∧ wx = w6)
    case first =>
      by_cases h0 : i < 0
      · go_wp2_with fail
        go_meet
        exact ⟨by simp [h0], rfl⟩
      · go_wp2_with fail
        go_meet
        exact ⟨by simp <;> omega, rfl⟩
    case rest =>
      obtain ⟨rfl, rfl⟩ := hcut
      go_upto_if 40 with (fail)
      go_cut [1] (fun t wx => ∃ i' : Nat, t = .int .i64 i' ∧ i' ≤ bs.length ∧ wx = wc)
      case first =>
        by_cases hbad : i < 0 ∨ (bs.length : Int) < i
        · have e : decide (i < 0 ∨ (bs.length : Int) < i) = true := by simp [hbad]
          rw [e]
          clear e
          go_wp2_with fail
          go_meet
          exact ⟨bs.length / 2, congrArg (Value.int .i64) (by omega), by omega, rfl⟩
        · have e : decide (i < 0 ∨ (bs.length : Int) < i) = false := by simp [hbad]
          rw [e]
          clear e
          go_wp2_with fail
          go_meet
          exact ⟨i.toNat, by rw [Int.toNat_of_nonneg (by omega)], by omega, rfl⟩
      case rest =>
        obtain ⟨i', rfl, hi', rfl⟩ := hcut
        have hi0 : (0 : Int) ≤ (i' : Int) := by omega
        go_upto_region 9 with fail
        go_cut [52] (fun t wx => t = .bool (decide (k < i' ∨ (bs.length : Int) < k)) ∧ wx = wc)
        case first =>
          by_cases h0 : k < i'
          · go_wp2_with fail
            go_meet
            exact ⟨by simp [h0], rfl⟩
          · go_wp2_with fail
            go_meet
            exact ⟨by simp <;> omega, rfl⟩
        case rest =>
          obtain ⟨rfl, rfl⟩ := hcut
          go_upto_if 52 with (fail)
          go_cut [2] (fun t wx => ∃ k' : Nat, t = .int .i64 k' ∧ i' ≤ k' ∧ k' ≤ bs.length ∧ wx = wc)
          case first =>
            by_cases hbad : k < i' ∨ (bs.length : Int) < k
            · have e : decide (k < i' ∨ (bs.length : Int) < k) = true := by simp [hbad]
              rw [e]
              clear e
              go_wp2_with fail
              go_meet
              exact ⟨i', rfl, by omega, by omega, rfl⟩
            · have e : decide (k < i' ∨ (bs.length : Int) < k) = false := by simp [hbad]
              rw [e]
              clear e
              go_wp2_with fail
              go_meet
              exact ⟨k.toNat, by rw [Int.toNat_of_nonneg (by omega)], by omega, by omega, rfl⟩
          case rest =>
            obtain ⟨k', rfl, hik, hk', rfl⟩ := hcut
            have HP := HB.out
            obtain ⟨a1, n1, c1, e1, r1⟩ : ∃ a n c_, (∀ W, (Instr.slice 37 (.slice A bs.length c) none (some (.int .i64 (i' : Int))) none).run Try.prog W = .ok (.slice a n c_) W) ∧ RB w (.slice a n c_) (bs.take i') := ⟨_, _, _, fun W => slice_bytes_h (by omega) W, by have := HP.cut (i := 0) (k := i') (Nat.zero_le _) hi'; exact this⟩
            obtain ⟨a2, n2, c2, e2, r2⟩ : ∃ a n c_, (∀ W, (Instr.slice 37 (.slice A bs.length c) (some (.int .i64 (i' : Int))) (some (.int .i64 (k' : Int))) none).run Try.prog W = .ok (.slice a n c_) W) ∧ RB w (.slice a n c_) ((bs.take k').drop i') := ⟨_, _, _, fun W => slice_bytes_lh hik (by omega) W, HP.cut hik hk'⟩
            obtain ⟨a3, n3, c3, e3, r3⟩ : ∃ a n c_, (∀ W, (Instr.slice 37 (.slice A bs.length c) (some (.int .i64 (k' : Int))) none none).run Try.prog W = .ok (.slice a n c_) W) ∧ RB w (.slice a n c_) (bs.drop k') := ⟨_, _, _, fun W => slice_bytes_l hk' W, by have := HP.cut (i := k') (k := bs.length) hk' (Nat.le_refl _); rwa [List.take_length] at this⟩
            have R1 := Lib.hid r1
            have R2 := Lib.hid r2
            have R3 := Lib.hid r3
            clear HP r1 r2 r3
            have HJ := Lib.hid (show bs.take i' ++ [] ++ (bs.take k').drop i' ++ bs.drop k' = bs by
              have h1 : bs.take i' = (bs.take k').take i' := by rw [List.take_take, Nat.min_eq_left hik]
              rw [List.append_nil, h1, List.take_append_drop, List.take_append_drop])
            generalize bs.take i' = p1 at *
            generalize (bs.take k').drop i' = p2 at *
            generalize bs.drop k' = p3 at *
            have hz : ∀ d : List UInt8, (BC (sha d)).toArray.size = 32 := fun d => by simp [BC_length, sha_length]
            go_upto_region 12 with (first
              | (go_at_call 11; refine (sum_any _ [.slice A bs.length c] [bs] _ (one_part (HB.out.only H4.out.1 fun _ _ => id)) (by simp; omega) (by simp)).mono ?_; rintro e w3 ⟨rfl, ho3⟩)
              | ((with_reducible show wpList _ _ _ (Oper.mk _ (.store 26 _ _) _ _ _ _ :: _) _ _); refine wpList_store_row rfl 26 (.tmp 13) (.tmp 56) rfl w3.heap.size (BC (sha bs)).toArray rfl rfl _ _ (heap_alloc_new w3 _) (by rw [hz]; kernel_rfl) (by rw [hz]; rfl) (all_oneCell_toArray (BC_one _)) ?_))
            obtain ⟨b13, hb13⟩ : ∃ b, w3.heap.size = b := ⟨_, rfl⟩
            refine wp_gen (Keep w [(b13, sha bs), (b8, d)]) (hb13 ▸ ((H4.out.only ((Only.refl _ _).alloc _)).only ho3).put _ _) ?_
            rw [hb13]
            clear hb13 ho3 H4
            intro w4 h4
            have H4 := Lib.hid h4
            clear h4
            have A1 := Lib.hid (show ∀ W, Only Nil w W → RB W (.slice a1 n1 c1) p1 from fun W ho => R1.out.only ho fun _ _ => id)
            have A2 := Lib.hid (show ∀ W, Only Nil w W → RB W (.slice a2 n2 c2) p2 from fun W ho => R2.out.only ho fun _ _ => id)
            have A3 := Lib.hid (show ∀ W, Only Nil w W → RB W (.slice a3 n3 c3) p3 from fun W ho => R3.out.only ho fun _ _ => id)
            have HF := Lib.hid (show [p1, [], p2, p3].flatten = bs by have := HJ.out; simpa using this)
            have HL := Lib.hid (show [p1, [], p2, p3].flatten.length ≤ 900000000000000000 by rw [HF.out]; omega)
            have HC := Lib.hid (And.intro hc (And.intro hi' (And.intro hik hk')))
            clear hc hi' hik hk' hi0
            (first | rw [Act.put_none] | simp only [Act.put])
            go_cut [14] (fun t wx => ∃ b : Nat, t = .pointer (some ⟨b, 0, none⟩) ∧ Keep w [(b, sha bs), (b13, sha bs), (b8, d)] wx)
            case first =>
              go_region_law ((go_simp; first
                | (go_at_call 11; refine (sum_any _ [(.slice a1 n1 c1), .slice none 0 0, (.slice a2 n2 c2), (.slice a3 n3 c3)] [p1, [], p2, p3] _ ?_ HL.out (by simp)).mono ?_; (first | exact four_at (A1.out _ H4.out.1) (RB.nil _ _ _) (A2.out _ H4.out.1) (A3.out _ H4.out.1) _ (by simp) | exact four_at (A1.out _ (H4.out.1.alloc _)) (RB.nil _ _ _) (A2.out _ (H4.out.1.alloc _)) (A3.out _ (H4.out.1.alloc _)) _ (by simp) | exact (four_parts (A1.out _ H4.out.1) (RB.nil _ _ _) (A2.out _ H4.out.1) (A3.out _ H4.out.1)).only (((Only.refl Nil _).alloc _).drew)); rw [HF.out]; rintro e w5 ⟨rfl, ho5⟩; have st1 := fun (z : Array Value) (hz : z.size = 32) => store32 (g := w5.heap.size) (heap_alloc_new w5 (Obj.cells z 26)) hz (sha_length bs); (first | (have qb := ho5.blk (Blk.new (w4.alloc _) 26 (BC zeros32)).drew id; rw [World.size_alloc] at qb; have st2 := store32 qb (by rfl) (sha_length bs)) | (have qb := ho5.blk ((Blk.new w4 26 (BC zeros32)).alloc _).drew id; have st2 := store32 qb (by rfl) (sha_length bs)) | skip))))
              all_goals
                go_wp2_with fail
                go_meet
                first
                  | exact ⟨_, rfl, ((H4.out.only (((Only.refl Nil w4).alloc _).drew)).only ho5).put _ _⟩
                  | exact ⟨_, rfl, Keep.fill H4.out ((((Only.refl Nil w4).alloc _).alloc _).drew.then ho5) (by omega) qb⟩
            case rest =>
              obtain ⟨b14, rfl, hK⟩ := hcut
              have K0 := Lib.hid hK
              clear hK H4 hz
              have hz : ∀ d : List UInt8, (BC (sha d)).toArray.size = 32 := fun d => by simp [BC_length, sha_length]
              obtain ⟨g, hg⟩ : ∃ b, wc.heap.size = b := ⟨_, rfl⟩
              go_upto_region 14 with (go_at_call 15; refine (new_any _).mono ?_; rintro e w' ⟨rfl, rfl⟩)
              refine wp_gen (KeepH w [(b14, sha bs), (b13, sha bs), (b8, d)] g []) (hg ▸ KeepH.fresh K0.out) ?_
              (try rw [hg])
              clear hg K0
              intro w2 h2
              have H2 := Lib.hid h2
              clear h2
              have hlp : p1.length + (p2.length + p3.length) = bs.length := by have := congrArg List.length HJ.out; simpa using this
              go_upto_region 17 with (go_at_call 17; refine (write_ok g [] p1 _ _ H2.out.2.1 (A1.out _ H2.out.1.1) (fun h0 => R1.out.ne h0 H2.out.2.2.2) (by simp; omega)).mono ?_; rintro e w3 ⟨rfl, hh3, ho3⟩)
              refine wp_gen (KeepH w [(b14, sha bs), (b13, sha bs), (b8, d)] g p1) (H2.out.wrote (Only.refl _ _) hh3 ho3) ?_
              clear hh3 ho3 H2
              intro w2 h2
              have H2 := Lib.hid h2
              clear h2
              go_upto_region 18 with (first
                  | (go_at_call 19; refine (hsum_any g p1 _ H2.out.2.1 (by omega)).mono ?_; rintro e w3 ⟨rfl, ho3⟩)
                  | ((with_reducible show wpList _ _ _ (Oper.mk _ (.store 26 _ _) _ _ _ _ :: _) _ _); refine wpList_store_row rfl 26 (.tmp 16) (.tmp 78) rfl w3.heap.size (BC (sha p1)).toArray rfl rfl _ _ (heap_alloc_new w3 _) (by rw [hz]; kernel_rfl) (by rw [hz]; rfl) (all_oneCell_toArray (BC_one _)) ?_))
              obtain ⟨b16, hb16⟩ : ∃ b, w3.heap.size = b := ⟨_, rfl⟩
              refine wp_gen (KeepH w [(b16, sha p1), (b14, sha bs), (b13, sha bs), (b8, d)] g p1) (hb16 ▸ (H2.out.only ho3).put _ _) ?_
              rw [hb16]
              clear hb16 ho3 H2
              intro w2 h2
              have H2 := Lib.hid h2
              clear h2
              go_upto_region 19 with (go_at_call 17; refine (write_ok g p1 p2 _ _ H2.out.2.1 (A2.out _ H2.out.1.1) (fun h0 => R2.out.ne h0 H2.out.2.2.2) (by omega)).mono ?_; rintro e w3 ⟨rfl, hh3, ho3⟩)
              refine wp_gen (KeepH w [(b16, sha p1), (b14, sha bs), (b13, sha bs), (b8, d)] g (p1 ++ p2)) (H2.out.wrote (Only.refl _ _) hh3 ho3) ?_
              clear hh3 ho3 H2
              intro w2 h2
              have H2 := Lib.hid h2
              clear h2
              go_upto_region 20 with (go_at_call 17; refine (write_ok g (p1 ++ p2) [] _ _ H2.out.2.1 (RB.nil _ _ _) (fun h0 => absurd h0 (by simp)) (by simp; omega)).mono ?_; rintro e w3 ⟨rfl, hh3, ho3⟩)
              refine wp_gen (KeepH w [(b16, sha p1), (b14, sha bs), (b13, sha bs), (b8, d)] g (p1 ++ p2)) (H2.out.wrote (Only.refl _ _) (by rw [List.append_nil] at hh3; exact hh3) ho3) ?_
              clear hh3 ho3 H2
              intro w2 h2
              have H2 := Lib.hid h2
              clear h2
              go_upto_region 22 with (first
                  | (go_at_call 19; refine (hsum_any g (p1 ++ p2) _ H2.out.2.1 (by simp; omega)).mono ?_; rintro e w3 ⟨rfl, ho3⟩)
                  | (go_at_call 17; refine (write_ok g (p1 ++ p2) p3 _ _ (H2.out.only ho3).2.1 (A3.out _ (H2.out.only ho3).1.1) (fun h0 => R3.out.ne h0 H2.out.2.2.2) (by simp; omega)).mono ?_; rintro e w4 ⟨rfl, hh4, ho4⟩))
              have HB2 := Lib.hid (show p1 ++ p2 ++ p3 = bs by have := HJ.out; simpa using this)
              refine wp_gen (KeepH w [(b16, sha p1), (b14, sha bs), (b13, sha bs), (b8, d)] g bs) ((H2.out.only ho3).wrote (Only.refl _ _) (by rw [HB2.out] at hh4; exact hh4) ho4) ?_
              clear hh4 ho4 ho3 H2
              intro w2 h2
              have H2 := Lib.hid h2
              clear h2
              go_upto_region 23 with (first
                  | (go_at_call 19; refine (hsum_any g bs _ H2.out.2.1 (by omega)).mono ?_; rintro e w3 ⟨rfl, ho3⟩)
                  | ((with_reducible show wpList _ _ _ (Oper.mk _ (.store 26 _ _) _ _ _ _ :: _) _ _); refine wpList_store_row rfl 26 (.tmp 17) (.tmp 95) rfl w3.heap.size (BC (sha bs)).toArray rfl rfl _ _ (heap_alloc_new w3 _) (by rw [hz]; kernel_rfl) (by rw [hz]; rfl) (all_oneCell_toArray (BC_one _)) ?_))
              obtain ⟨b17, hb17⟩ : ∃ b, w3.heap.size = b := ⟨_, rfl⟩
              refine wp_gen (KeepH w [(b17, sha bs), (b16, sha p1), (b14, sha bs), (b13, sha bs), (b8, d)] g bs) (hb17 ▸ (H2.out.only ho3).put _ _) ?_
              rw [hb17]
              clear hb17 ho3 H2
              intro w2 h2
              have H2 := Lib.hid h2
              clear h2
              go_upto_region 24 with (first
                  | (go_at_call 11; refine (sum_any _ [.slice a1 n1 c1] [p1] _ (one_part (A1.out _ H2.out.1.1)) (by simp; omega) (by simp)).mono ?_; rintro e w3 ⟨rfl, ho3⟩)
                  | ((with_reducible show wpList _ _ _ (Oper.mk _ (.store 26 _ _) _ _ _ _ :: _) _ _); refine wpList_store_row rfl 26 (.tmp 18) (.tmp 100) rfl w3.heap.size (BC (sha p1)).toArray rfl rfl _ _ (heap_alloc_new w3 _) (by rw [hz]; kernel_rfl) (by rw [hz]; rfl) (all_oneCell_toArray (BC_one _)) ?_))
              obtain ⟨b18, hb18⟩ : ∃ b, w3.heap.size = b := ⟨_, rfl⟩
              refine wp_gen (KeepH w [(b18, sha p1), (b17, sha bs), (b16, sha p1), (b14, sha bs), (b13, sha bs), (b8, d)] g bs) (hb18 ▸ ((H2.out.only ((Only.refl _ _).alloc _)).only ho3).put _ _) ?_
              rw [hb18]
              clear hb18 ho3 H2
              intro w2 h2
              have H2 := Lib.hid h2
              clear h2
              have z1 : ∀ W, (Op.equalIn 10000 26 (.agg (BC (sha bs)).toArray) (.agg (BC (sha bs)).toArray)).run Try.prog W = .ok true W := fun W => by rw [equal32 W _ _ (sha_length _) (sha_length _)]; simp
              have z2 : ∀ W, (Op.equalIn 10000 26 (.agg (BC (sha p1)).toArray) (.agg (BC (sha p1)).toArray)).run Try.prog W = .ok true W := fun W => by rw [equal32 W _ _ (sha_length _) (sha_length _)]; simp
              go_upto_region 27 with (first
                  | (go_at_call 21; refine (len_any g bs _ H2.out.2.1).mono ?_; rintro e w3 ⟨rfl, rfl⟩)
                  | ((with_reducible show wpList _ _ _ (Oper.mk _ (.load 26 (.tmp 13)) _ _ _ _ :: _) _ _); refine wpList_load_wanted (by rfl) 26 (.tmp 13) rfl b13 rfl 26 (BC (sha bs)).toArray (0, 0) _ (H2.out.blk b13 (sha bs) (by simp)) Try.underlying26 rfl (by rw [hz]; kernel_rfl) ?_)
                  | ((with_reducible show wpList _ _ _ (Oper.mk _ (.load 26 (.tmp 14)) _ _ _ _ :: _) _ _); refine wpList_load_wanted (by rfl) 26 (.tmp 14) rfl b14 rfl 26 (BC (sha bs)).toArray (0, 0) _ (H2.out.blk b14 (sha bs) (by simp)) Try.underlying26 rfl (by rw [hz]; kernel_rfl) ?_)
                  | ((with_reducible show wpList _ _ _ (Oper.mk _ (.load 26 (.tmp 17)) _ _ _ _ :: _) _ _); refine wpList_load_wanted (by rfl) 26 (.tmp 17) rfl b17 rfl 26 (BC (sha bs)).toArray (0, 0) _ (H2.out.blk b17 (sha bs) (by simp)) Try.underlying26 rfl (by rw [hz]; kernel_rfl) ?_)
                  | ((with_reducible show wpList _ _ _ (Oper.mk _ (.load 26 (.tmp 16)) _ _ _ _ :: _) _ _); refine wpList_load_wanted (by rfl) 26 (.tmp 16) rfl b16 rfl 26 (BC (sha p1)).toArray (0, 0) _ (H2.out.blk b16 (sha p1) (by simp)) Try.underlying26 rfl (by rw [hz]; kernel_rfl) ?_)
                  | ((with_reducible show wpList _ _ _ (Oper.mk _ (.load 26 (.tmp 18)) _ _ _ _ :: _) _ _); refine wpList_load_wanted (by rfl) 26 (.tmp 18) rfl b18 rfl 26 (BC (sha p1)).toArray (0, 0) _ (H2.out.blk b18 (sha p1) (by simp)) Try.underlying26 rfl (by rw [hz]; kernel_rfl) ?_))
              clear z1 z2 A1 A2 A3 HF HL HJ HC R1 R2 R3
              go_upto_region 28 with (first
                  | ((with_reducible show wpList _ _ _ (Oper.mk _ (.load 26 (.tmp 8)) _ _ _ _ :: _) _ _); refine wpList_load_wanted (by rfl) 26 (.tmp 8) rfl b8 rfl 26 (BC (d)).toArray (0, 0) _ (H2.out.blk b8 (d) (by simp)) Try.underlying26 rfl (by rw [hn]; kernel_rfl) ?_)
                  | (go_at_call 23; refine (hex_any d _ hd).mono ?_; rintro e w4 ⟨rfl, ho4⟩))
              have H3 := Lib.hid (H2.out.only ho4)
              clear H2 ho4
              go_upto_region 29 with (first
                  | (go_at_call 24; refine (unhex_text d hd _).mono ?_; rintro e w6 ⟨rfl, ho6⟩)
                  | ((with_reducible show wpList _ _ _ (Oper.mk _ (.store 26 _ _) _ _ _ _ :: _) _ _); refine wpList_store_row rfl 26 (.tmp 21) (.tmp 127) rfl w6.heap.size (BC (d)).toArray rfl rfl _ _ (heap_alloc_new w6 _) (by rw [hn]; kernel_rfl) (by rw [hn]; rfl) (all_oneCell_toArray (BC_one _)) ?_))
              obtain ⟨b21, hb21⟩ : ∃ b, w6.heap.size = b := ⟨_, rfl⟩
              refine wp_gen (KeepH w [(b21, d), (b18, sha p1), (b17, sha bs), (b16, sha p1), (b14, sha bs), (b13, sha bs), (b8, d)] g bs) (hb21 ▸ (H3.out.only ho6).put _ _) ?_
              rw [hb21]
              clear hb21 H3 ho6
              intro w2 h2
              have H2 := Lib.hid h2
              clear h2
              have hu : (BC (un s)).toArray.size = 32 := by simp [BC_length, un_len]
              go_upto_region 30 with (first
                  | (go_at_call 24; refine (unhex_any s _).mono ?_; rintro e w6 ⟨rfl, ho6⟩)
                  | ((with_reducible show wpList _ _ _ (Oper.mk _ (.store 26 _ _) _ _ _ _ :: _) _ _); refine wpList_store_row rfl 26 (.tmp 23) (.tmp 132) rfl w6.heap.size (BC (un s)).toArray rfl rfl _ _ (heap_alloc_new w6 _) (by rw [hu]; kernel_rfl) (by rw [hu]; rfl) (all_oneCell_toArray (BC_one _)) ?_))
              obtain ⟨b23, hb23⟩ : ∃ b, w6.heap.size = b := ⟨_, rfl⟩
              refine wp_gen (KeepH w [(b23, un s), (b21, d), (b18, sha p1), (b17, sha bs), (b16, sha p1), (b14, sha bs), (b13, sha bs), (b8, d)] g bs) (hb23 ▸ (H2.out.only ho6).put _ _) ?_
              rw [hb23]
              clear hb23 H2 ho6
              intro w2 h2
              have H2 := Lib.hid h2
              clear h2
              have z3 : ∀ W, (Op.equalIn 10000 26 (.agg (BC d).toArray) (.agg (BC d).toArray)).run Try.prog W = .ok true W := fun W => by rw [equal32 W _ _ hd hd]; simp
              clear e1 e2 e3 HB hz hlp HB2 hn0 hn1 hlen2
              by_cases hx : isHex s = true
              · obtain ⟨e1, e2⟩ := un_yes s hx
                have E := Lib.hid (show hex (un s) = s by rw [e1, hex_unhex s hx])
                rw [e2]
                clear e1 e2 hx
                have hul : (un s).length = 32 := un_len s
                go_upto_region 32 with (first
                    | ((with_reducible show wpList _ _ _ (Oper.mk _ (.load 26 (.tmp 23)) _ _ _ _ :: _) _ _); refine wpList_load_wanted (by rfl) 26 (.tmp 23) rfl b23 rfl 26 (BC (un s)).toArray (0, 0) _ (H2.out.blk b23 (un s) (by simp)) Try.underlying26 rfl (by rw [hu]; kernel_rfl) ?_)
                    | (go_at_call 23; refine (hex_any (un s) _ hul).mono ?_; rintro e w4 ⟨rfl, ho4⟩))
                rw [E.out]
                have H5 := Lib.hid (H2.out.only ho4)
                go_wp2_with (first
                    | ((with_reducible show wpList _ _ _ (Oper.mk _ (.load 26 (.tmp 21)) _ _ _ _ :: _) _ _); refine wpList_load_wanted (by rfl) 26 (.tmp 21) rfl b21 rfl 26 (BC (d)).toArray (0, 0) _ (H5.out.blk b21 (d) (by simp)) Try.underlying26 rfl (by rw [hn]; kernel_rfl) ?_)
                    | ((with_reducible show wpList _ _ _ (Oper.mk _ (.load 26 (.tmp 8)) _ _ _ _ :: _) _ _); refine wpList_load_wanted (by rfl) 26 (.tmp 8) rfl b8 rfl 26 (BC (d)).toArray (0, 0) _ (H5.out.blk b8 (d) (by simp)) Try.underlying26 rfl (by rw [hn]; kernel_rfl) ?_))
                go_ret
                exact ⟨rfl, H5.out.1.1⟩
              · obtain ⟨e1, e2⟩ := un_no s (by simpa using hx)
                rw [e2]
                clear e2
                go_wp2_with (first
                    | ((with_reducible show wpList _ _ _ (Oper.mk _ (.load 26 (.tmp 21)) _ _ _ _ :: _) _ _); refine wpList_load_wanted (by rfl) 26 (.tmp 21) rfl b21 rfl 26 (BC (d)).toArray (0, 0) _ (H2.out.blk b21 (d) (by simp)) Try.underlying26 rfl (by rw [hn]; kernel_rfl) ?_)
                    | ((with_reducible show wpList _ _ _ (Oper.mk _ (.load 26 (.tmp 8)) _ _ _ _ :: _) _ _); refine wpList_load_wanted (by rfl) 26 (.tmp 8) rfl b8 rfl 26 (BC (d)).toArray (0, 0) _ (H2.out.blk b8 (d) (by simp)) Try.underlying26 rfl (by rw [hn]; kernel_rfl) ?_))
                go_ret
                exact ⟨rfl, H2.out.1.1⟩

open Go.ChangeShapes Go.WideShapes Go.ChangeAt
open Go.ChangeMaps (open_string)
set_option maxRecDepth 100000 in
theorem joined_lifted (os : Os) (started : os.Started) (H : Type) (enc : TypeId × Value → H) :
    ReturnsInHanded {} Try.checked os 7 .any (Rows.digestJoinedSpec.pre6 enc Try.prog Try.f7 Rows.digestJoinedRow.domain false) (Rows.digestJoinedSpec.post enc Try.prog Try.f7 false true false false) := by
  refine returnsInHanded_of_change (C := Try.checked) Try.own started (by kernel_rfl) Try.func7
    (ChangeSpec.witness6 (enc := enc) (C := Try.checked) false ⟨#[], #[.slice none 0 0, .int .i64 0, .int .i64 0, .agg (Array.replicate 32 (.int .u8 0)), .string ⟨#[]⟩], []⟩ 8 (by kernel_rfl) (by kernel_rfl) (by kernel_rfl) (by kernel_rfl)) ?_
  intro W base args ds gs before hval0 hW hcnd _
  have hval : ∀ (j : Nat) t v, Try.f7.params[j]? = some t → args[j]? = some v → Value.okWide Try.prog W .any base t v := hval0
  have hW' := hW
  obtain ⟨p, q, hA0, hV, rfl, hfz, hnd⟩ := hW
  have hA : DataW.TrodAll enc Try.prog W 0 (fun _ => true) true Try.f7.params.toList args.toList ds p := hA0
  rw [Try.params7] at hA hval
  have hA1 := hA
  obtain ⟨v0, vs1, d0, ds1, p0, ps1, hargs, rfl, rfl, h0, hA2⟩ := trodAll_cons hA
  obtain ⟨v1, vs2, d1, ds2, p1, ps2, rfl, rfl, rfl, h1, hA3⟩ := trodAll_cons hA2
  obtain ⟨v2, vs3, d2, ds3, p2, ps3, rfl, rfl, rfl, h2, hA4⟩ := trodAll_cons hA3
  obtain ⟨v3, vs4, d3, ds4, p3, ps4, rfl, rfl, rfl, h3, hA5⟩ := trodAll_cons hA4
  obtain ⟨v4, vs5, d4, ds5, p4, ps5, rfl, rfl, rfl, h4, hA6⟩ := trodAll_cons hA5
  obtain ⟨rfl, rfl, rfl⟩ := trodAll_nil hA6
  obtain rfl : args = #[v0, v1, v2, v3, v4] := Array.ext' (by simpa using hargs)
  obtain ⟨rfl, rfl⟩ := trodVars_none hV
  obtain ⟨bs, hb, _⟩ := open_rb Try.underlying37 Try.underlying5 (by kernel_rfl) (hval 0 37 v0 rfl rfl) h0
  obtain ⟨i, rfl, _, _, wi⟩ := open_int Try.underlying3 (hval 1 3 v1 rfl rfl) h1
  obtain ⟨k, rfl, _, _, wk⟩ := open_int Try.underlying3 (hval 2 3 v2 rfl rfl) h2
  obtain ⟨d, rfl, hd⟩ := open_bytes Try.underlying26 Try.underlying5 (by kernel_rfl) (by kernel_rfl) (hval 3 26 v3 rfl rfl) h3
  obtain ⟨s, rfl, _, _, hs⟩ := open_string Try.underlying9 (hval 4 9 v4 rfl rfl) h4
  clear hA0 hval0
  have hlt := hW'.lt
  have hwalk := joined_any v0 bs i k d s.data.toList W hb hd
  rw [← str_of_data s] at hwalk
  refine hwalk.mono fun e W' ⟨he, hw⟩ => ?_
  subst he
  exact ⟨_, rfl, _, _, _, [], _, [], hW', trodAll_mk1 (shut_bool Try.underlying4 true), trodAll_stays Try.laidOut (hw.below (Nat.le_refl _) fun _ h => h.elim) (by kernel_rfl) hA1 (fun x hx => hlt x (by simpa using hx)), rfl, kept_of_only hw _, fun h => by cases h⟩
theorem joined_holds : Rows.DigestJoinedSaid :=
  OpenClaim.holds_of_wide 7 Try.f7 rfl rfl rfl rfl rfl rfl rfl ⟨rfl, rfl, rfl, rfl, rfl⟩ rfl rfl rfl rfl rfl (by kernel_rfl) Try.func7 (by kernel_rfl)
    (of_decide_eq_true (by kernel_rfl)) (by unfold Func.isWrapper; rw [if_neg (by decide +kernel)]; exact ⟨rfl, rfl⟩)
    (fun os started H enc _ => joined_lifted os started H enc)
end Go.Proofs.Ythkongkbefpilaa
