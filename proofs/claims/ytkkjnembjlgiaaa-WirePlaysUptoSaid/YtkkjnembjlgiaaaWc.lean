/-
  push: its walk.
-/
import Derived.Test.YtkkjnembjlgiaaaWb
namespace Go.Proofs.Ytkkjnembjlgiaaa
set_option maxRecDepth 100000
open Go.RowKit

theorem info_way : (Try.prog.info? 68).map (fun i => (i.zero, i.size, i.bytes)) = some (some (.agg #[.int .i64 0, .int .i64 0, .slice none 0 0]), 3, 40) := by kernel_rfl
theorem up_step (l : List Wy) (i : Nat) (h : 0 < i) (ha : aheadB (l.getD i wy0) (l.getD ((i - 1) / 2) wy0) = true) : up l i = up (swapL l i ((i - 1) / 2)) ((i - 1) / 2) := by
  rw [up, if_pos ⟨h, ha⟩]
theorem up_stop (l : List Wy) (i : Nat) (h : ¬ (0 < i ∧ aheadB (l.getD i wy0) (l.getD ((i - 1) / 2) wy0) = true)) : up l i = l := by
  rw [up, if_neg h]
theorem wp_gen' {Q : Exit → Act → World → Prop} {e : Exit} {a : Act} {W : World} (W' : World) (hW : W = W') (h : Q e a W') : Q e a W := hW ▸ h
set_option maxHeartbeats 3200000 in
theorem push_any (B : Nat) (v : Value) (l : List Wy) (x : Wy) (w : World) (h : OwW B w v l) (hB : B ≤ w.heap.size) (hn : l.length ≤ 1000000) :
    Calls Try.prog 40 #[v, x.v, .func (.func 34) #[] #[]] w fun e w' => ∃ v', e = .returned v' ∧ OwW B w' v' (pushP l x) ∧ Only (fun k => v.ownBlock = some k) w w' ∧ (∀ k, v'.ownBlock = some k → v.ownBlock = some k ∨ w.heap.size ≤ k) := by
  obtain ⟨ie, hie, hez, hes, heb⟩ := info_parts info_way
  have H0 := Lib.hid h
  obtain ⟨xd, xn, xa, xc, xb⟩ := x
  unfold Wy.v Wy.cells
  dsimp only
  go_enter Try.func40, Try.ntmps40
  go_upto_region 2 with ((with_reducible show wpList _ _ _ (Oper.mk _ (.call { callee := .builtin .append, args := _, argTypes := _ }) _ _ _ _ :: _) _ _); refine wpList_append_rowN rfl (.tmp 8) (.tmp 10) 54 rfl B 68 ie _ 3 40 Try.underlying54 hie hez hes heb rfl (by omega) v l.length (flatW l) rfl (ownN_only H0.out (((Only.refl Nil w).alloc _).alloc _) fun _ _ => id) ⟨w.heap.size + 1, 0, none⟩ 1 1 [.int .i64 xd, .int .i64 xn, .slice xa xb.length xc] rfl rfl (news_block (by have := Blk.new (w.alloc (.cells #[.int .i64 xd, .int .i64 xn, .slice xa xb.length xc] 68)) 68 [.int .i64 xd, .int .i64 xn, .slice xa xb.length xc]; rwa [World.size_alloc] at this)) (wy_one ⟨xd, xn, xa, xc, xb⟩) (by omega) (by unfold maxLen; omega) (by omega) (by simp; omega) ?_; intro g cap w3 hg)
  have hw3 : OwW B w3 (.slice (some ⟨g, 0, none⟩) (l.length + 1) cap) (l ++ [⟨xd, xn, xa, xc, xb⟩]) := by
    unfold OwW
    rw [flatW_snoc, List.length_append]
    exact hg.own
  have ho3 : Only (fun k => v.ownBlock = some k) w w3 := ((((Only.refl _ w).alloc _).alloc _).trans (Only.of_grown (S := fun k => v.ownBlock = some k) hg.grown fun k hk => .inl hk) fun k hk => .inl hk)
  have hg3 : v.ownBlock = some g ∨ w.heap.size ≤ g := hg.at'.imp id fun e => by rw [e]; simp; omega
  clear hg
  have hlen : (l ++ [(⟨xd, xn, xa, xc, xb⟩ : Wy)]).length = l.length + 1 := by simp
  have HP := Lib.hid (show pushP l ⟨xd, xn, xa, xc, xb⟩ = up (l ++ [⟨xd, xn, xa, xc, xb⟩]) l.length from rfl)
  obtain ⟨x, hx⟩ : ∃ x : Wy, ⟨xd, xn, xa, xc, xb⟩ = x := ⟨_, rfl⟩
  rw [hx] at hw3 hlen HP
  have HX := Lib.hid hx
  clear hx
  generalize hl1 : l ++ [x] = l1 at *
  have HL := Lib.hid hl1
  clear hl1
  obtain ⟨n, hn0⟩ : ∃ n, n = l.length := ⟨_, rfl⟩
  rw [← hn0] at hlen hw3 hn HP ⊢
  have H3 := Lib.hid (And.intro hw3 ho3)
  have HG3 := Lib.hid hg3
  have H0' := Lib.hid h
  clear hw3 ho3 hg3 h H0 hn0 hB hie hez hes heb
  go_wp2
  go_loopw [7] (fun i wr => ∃ (k : Nat) (m : List Wy), i = .int .i64 k ∧ k < n + 1 ∧ m.length = n + 1 ∧ up m k = up l1 n ∧ OwW B wr (.slice (some ⟨g, 0, none⟩) (n + 1) cap) m ∧ Only (fun k => v.ownBlock = some k) w wr) (fun i _ => (intOf i).toNat)
  case atStart => exact ⟨n, l1, by go_num, by omega, hlen, rfl, H3.out.1, H3.out.2⟩
  case round =>
    obtain ⟨k, m, rfl, hk, hml, hup, hown, hon⟩ := hrel
    have HU := Lib.hid hup
    have HO := Lib.hid hon
    have HW := Lib.hid hown
    cases k with
    | zero =>
      clear hown hon hup
      rw [show ((0 : Nat) : Int) = 0 from rfl]
      have d0 : decide ((0 : Int) < 0) = false := by decide
      go_upto_region 3 with fail
      go_quiet (fail)
      go_wp2
      go_ret
      refine ⟨_, rfl, ?_, HO.out.drewN nq, fun k hk => ?_⟩
      · show OwW B _ (.slice (some ⟨g, 0, none⟩) (n + 1) cap) (pushP l _)
        rw [HX.out, HP.out, ← HU.out, up_stop m 0 (by omega)]
        unfold OwW
        rw [hml]
        have := HW.out
        unfold OwW at this
        rw [hml] at this
        exact ownN_only this ((Only.refl Nil wr).drewN nq) fun _ _ => id
      · have : g = k := Option.some.inj hk
        rw [← this]
        exact HG3.out
    | succ k =>
      obtain ⟨p0, p1, p2⟩ := hown.cells3 (j := k + 1) (by omega)
      obtain ⟨q, hq⟩ : ∃ q, q = k / 2 := ⟨_, rfl⟩
      obtain ⟨q0, q1, q2⟩ := hown.cells3 (j := q) (by omega)
      obtain ⟨y, hy⟩ : ∃ y, m.getD (k + 1) wy0 = y := ⟨_, rfl⟩
      obtain ⟨z, hz⟩ : ∃ y, m.getD q wy0 = y := ⟨_, rfl⟩
      rw [hy] at p0 p1 p2
      rw [hz] at q0 q1 q2
      have HY := Lib.hid hy
      have HZ := Lib.hid hz
      clear hown hon hup hy hz
      rw [show ((k + 1 : Nat) : Int) = (k : Int) + 1 from by omega]
      have g0 : (0 : Int) < (k : Int) + 1 := by omega
      have g1 : (k : Int) + 1 < (n : Int) + 1 := by omega
      have g2 : (k : Int) < (n : Int) := by omega
      have wq : IntKind.i64.wrap ((IntKind.i64.wrap (k : Int)).tdiv 2) = (q : Int) := by
        have h2 : (k : Int).tdiv 2 = (q : Int) := by rw [Int.tdiv_eq_ediv_of_nonneg (by omega)]; omega
        rw [IntWalk.i64_in (k : Int) (by omega), h2, IntWalk.i64_in _ (by omega)]
      have HQ := Lib.hid hq
      have g4 : (q : Int) < (n : Int) + 1 := by omega
      have g5 : (0 : Int) ≤ (q : Int) := by omega
      clear hq
      have g3 : (0 : Int) ≤ (k : Int) + 1 := by omega
      go_upto_region 3 with fail
      go_still_tail 14, (by kernel_rfl)
      change wpList _ _ _ _ _ wr.drew
      have HO1 := Lib.hid (show Only (fun k => v.ownBlock = some k) w wr.drew from HO.out.drew)
      have HW1 := Lib.hid (show OwW B wr.drew (.slice (some ⟨g, 0, none⟩) (n + 1) cap) m from HW.out)
      generalize wr.drew = w4 at *
      clear p0 p1 p2 q0 q1 q2 HO HW
      cases hb : aheadB y z with
      | false =>
        go_wp2_with (go_at_call 34; refine (ahead_any y z _).mono ?_; rintro e w5 ⟨rfl, ho5⟩; rw [hb]; have HO5 := Lib.hid ho5; clear ho5)
        go_ret
        refine ⟨_, rfl, ?_, HO1.out.then (HO5.out.mono fun _ _ e => e.elim), fun k hk => ?_⟩
        · show OwW B _ (.slice (some ⟨g, 0, none⟩) (n + 1) cap) (pushP l _)
          rw [HX.out, HP.out, ← HU.out, up_stop m (k + 1) (by rw [HY.out, show (k + 1 - 1) / 2 = q by rw [HQ.out]; omega, HZ.out, hb]; simp)]
          unfold OwW
          rw [hml]
          have := HW1.out
          unfold OwW at this
          rw [hml] at this
          exact ownN_only this HO5.out fun _ _ => id
        · have : g = k := Option.some.inj hk
          rw [← this]
          exact HG3.out
      | true =>
        go_upto_region 5 with (go_at_call 34; refine (ahead_any y z _).mono ?_; rintro e w5 ⟨rfl, ho5⟩; rw [hb]; have HO5 := Lib.hid (HO1.out.then (ho5.mono fun _ _ e => e.elim)); have HW5 := Lib.hid (show OwW B w5 (.slice (some ⟨g, 0, none⟩) (n + 1) cap) m from ownN_only HW1.out ho5 fun _ _ => id); clear ho5)
        clear HO1 HW1
        obtain ⟨p0, p1, p2⟩ := HW5.out.cells3 (j := k + 1) (by omega)
        obtain ⟨q0, q1, q2⟩ := HW5.out.cells3 (j := q) (by have := HQ.out; omega)
        rw [HY.out] at p0 p1 p2
        rw [HZ.out] at q0 q1 q2
        have f0 := HW5.out.free
        rw [HQ.out] at q0 q1 q2
        clear wq g4 g5
        go_region
        refine wp_gen' (swapW w5 g (k + 1) (k / 2) z y) rfl ?_
        have HN := Lib.hid (HW5.out.swap (j := k + 1) (i := k / 2) (by omega) (by omega) z y)
        have HM := Lib.hid (only_swap HO5.out HG3.out (k + 1) (k / 2) z y)
        generalize swapW w5 g (k + 1) (k / 2) z y = w6 at *
        clear p0 p1 p2 q0 q1 q2 f0 HW5 HO5
        go_wp2
        go_roundw
        case rel =>
          refine ⟨q, swapL m (k + 1) q, by have := HQ.out; go_num, by have := HQ.out; omega, by rw [swapL_length]; exact hml, ?_, ?_, HM.out⟩
          · rw [← HU.out, up_step m (k + 1) (by omega) (by rw [HY.out, show (k + 1 - 1) / 2 = q by rw [HQ.out]; omega, HZ.out, hb]), show (k + 1 - 1) / 2 = q by rw [HQ.out]; omega]
          · unfold swapL
            rw [HY.out, HZ.out]
            have := HN.out
            rw [← HQ.out] at this
            exact this
        case measure => simp only [intOf]; omega
end Go.Proofs.Ytkkjnembjlgiaaa
