/-
  WirePlays: a call at both (step): Next, Len and Lost; any other kind.
-/
import Derived.Test.YtkkjnembjlgiaaaVk
namespace Go.Proofs.Ytkkjnembjlgiaaa
set_option maxRecDepth 100000
open Go.RowKit

section
variable {B : Nat} {W W' W1 W2 W3 W4 : World} {c c' : Nat → Nat} {F G T : Nat → Prop} {i j w x kb bk n : Nat} {s r s' r' : WS} {ks ks' : List Ke}
set_option maxHeartbeats 3200000 in
theorem step_next (H : Half B W c i j w x s r n) (K : Kept B W c kb bk ks) (hk : KsOk ks) (t y z : Value) :
    Calls Try.prog 10 #[.pointer (some ⟨kb, 0, none⟩), .pointer (some ⟨w, 0, none⟩), .pointer (some ⟨x, 0, none⟩), .agg #[.int .i64 4, t, y, z]] W fun e W' => e = .returned (.bool true) ∧ After B W c i j w x kb bk n ks W' := by
  obtain ⟨b, hbz⟩ : ∃ b, W.heap.size = b := ⟨_, rfl⟩
  obtain ⟨F, hF, _⟩ := H.wire
  obtain ⟨G, hG, _⟩ := H.vire
  have HA := Lib.hid (fun (W' : World) (ho : Only Nil W W') => After.same H K hk ho)
  obtain ⟨z1, hz1⟩ : ∃ z1, (nextP s).1 = z1 := ⟨_, rfl⟩
  obtain ⟨z2, hz2⟩ : ∃ z2, (nextP s).2 = z2 := ⟨_, rfl⟩
  have HN := Lib.hid (fun (W1 : World) (ho : Only Nil W W1) => next_any (hF.only ho fun _ _ e => e))
  rw [hz1, hz2] at HN
  have hfew : r.ways.length ≤ 4096 := by rw [H.rel.mt.len]; exact H.sane.few
  have HR := Lib.hid (show ∀ (W1 : World), Only Nil W W1 → Calls Try.prog 25 #[.pointer (some ⟨x, 0, none⟩)] W1 fun e w' => e = .returned (.tuple #[.int .i64 z1, .bool z2]) ∧ Only Nil W1 w' from fun W1 ho => (rnext_any (hG.nil ho) hfew).mono fun e w' ⟨h1, h2⟩ => ⟨by
    rw [← hz1, ← hz2]
    rcases h2 with ⟨h2, h3⟩ | ⟨k, h2, h3⟩
    · rw [h3, H.rel.next0 h2]
    · rw [h3, H.rel.next1 h2], h1⟩)
  have HX := Lib.hid (show Blk (W.alloc (.cells #[.int .i64 4, t, y, z] 42)) b 42 [.int .i64 4, t, y, z] from hbz ▸ Blk.new W _ _)
  clear H K hk hF hG hfew hz1 hz2
  go_enter Try.func10, Try.ntmps10
  go_upto_region 1 with fail
  (try rw [hbz])
  refine wp_gen (fun W1 => Only Nil W W1 ∧ Blk W1 b 42 [.int .i64 4, t, y, z]) ⟨(Only.refl _ _).alloc _, HX.out⟩ ?_
  clear HX hbz
  rintro W1 ⟨hO1, hX1⟩
  have HO1 := Lib.hid hO1
  have x0 : W1.cell? ⟨b, 0, none⟩ = some (.int .i64 4) := hX1.cell 0
  clear hO1 hX1
  go_wp2_with (first
    | (go_at_call 15; refine (HN.out _ HO1.out).mono ?_; rintro e W2 ⟨rfl, rfl⟩)
    | (go_at_call 25; refine (HR.out _ HO1.out).mono ?_; rintro e W3 ⟨rfl, ho3⟩; have HO3 := Lib.hid ho3; clear ho3))
  go_ret
  exact ⟨rfl, HA.out _ (HO1.out.then HO3.out)⟩
set_option maxHeartbeats 3200000 in
theorem step_len0 (H : Half B W c i j w x s r n) (t y z : Value) :
    Calls Try.prog 10 #[.pointer (some ⟨kb, 0, none⟩), .pointer (some ⟨w, 0, none⟩), .pointer (some ⟨x, 0, none⟩), .agg #[.int .i64 5, t, y, z]] W fun e W' => e = .returned (.bool true) ∧ Only Nil W W' := by
  obtain ⟨b, hbz⟩ : ∃ b, W.heap.size = b := ⟨_, rfl⟩
  obtain ⟨F, hF, _⟩ := H.wire
  obtain ⟨G, hG, _⟩ := H.vire
  have HL1 := Lib.hid (fun (W1 : World) (ho : Only Nil W W1) => len_any (hF.only ho fun _ _ e => e))
  have HL2 := Lib.hid (fun (W1 : World) (ho : Only Nil W W1) => lost_any (hF.only ho fun _ _ e => e))
  have HL3 := Lib.hid (fun (W1 : World) (ho : Only Nil W W1) => rlen_any (hG.nil ho))
  have HL4 := Lib.hid (fun (W1 : World) (ho : Only Nil W W1) => rlost_any (hG.nil ho))
  rw [H.rel.mt.len] at HL3
  rw [H.rel.lost] at HL4
  have HX := Lib.hid (show Blk (W.alloc (.cells #[.int .i64 5, t, y, z] 42)) b 42 [.int .i64 5, t, y, z] from hbz ▸ Blk.new W _ _)
  clear H hF hG
  go_enter Try.func10, Try.ntmps10
  go_upto_region 1 with fail
  (try rw [hbz])
  refine wp_gen (fun W1 => Only Nil W W1 ∧ Blk W1 b 42 [.int .i64 5, t, y, z]) ⟨(Only.refl _ _).alloc _, HX.out⟩ ?_
  clear HX hbz
  rintro W1 ⟨hO1, hX1⟩
  have HO1 := Lib.hid hO1
  have x0 : W1.cell? ⟨b, 0, none⟩ = some (.int .i64 5) := hX1.cell 0
  clear hO1 hX1
  go_wp2_with (first
    | (go_at_call 16; refine (HL1.out _ HO1.out).mono ?_; rintro e W2 ⟨rfl, rfl⟩)
    | (go_at_call 26; refine (HL3.out _ HO1.out).mono ?_; rintro e W2 ⟨rfl, rfl⟩)
    | (go_at_call 17; refine (HL2.out _ HO1.out).mono ?_; rintro e W2 ⟨rfl, rfl⟩)
    | (go_at_call 27; refine (HL4.out _ HO1.out).mono ?_; rintro e W2 ⟨rfl, rfl⟩))
  go_ret
  exact ⟨rfl, HO1.out⟩
theorem step_len (H : Half B W c i j w x s r n) (K : Kept B W c kb bk ks) (hk : KsOk ks) (t y z : Value) :
    Calls Try.prog 10 #[.pointer (some ⟨kb, 0, none⟩), .pointer (some ⟨w, 0, none⟩), .pointer (some ⟨x, 0, none⟩), .agg #[.int .i64 5, t, y, z]] W fun e W' => e = .returned (.bool true) ∧ After B W c i j w x kb bk n ks W' :=
  (step_len0 H t y z).mono fun _ _ ⟨e1, e2⟩ => ⟨e1, After.same H K hk e2⟩
set_option maxHeartbeats 3200000 in
theorem step_other (H : Half B W c i j w x s r n) (K : Kept B W c kb bk ks) (hk : KsOk ks) (t y z : Value) (kd : Int) (k1 : ¬ kd = 1) (k2 : ¬ kd = 2) (k3 : ¬ kd = 3) (k4 : ¬ kd = 4) (k5 : ¬ kd = 5) :
    Calls Try.prog 10 #[.pointer (some ⟨kb, 0, none⟩), .pointer (some ⟨w, 0, none⟩), .pointer (some ⟨x, 0, none⟩), .agg #[.int .i64 kd, t, y, z]] W fun e W' => e = .returned (.bool true) ∧ After B W c i j w x kb bk n ks W' := by
  obtain ⟨b, hbz⟩ : ∃ b, W.heap.size = b := ⟨_, rfl⟩
  have HA := Lib.hid (fun (W' : World) (ho : Only Nil W W') => After.same H K hk ho)
  have HX := Lib.hid (show Blk (W.alloc (.cells #[.int .i64 kd, t, y, z] 42)) b 42 [.int .i64 kd, t, y, z] from hbz ▸ Blk.new W _ _)
  clear H K hk
  go_enter Try.func10, Try.ntmps10
  go_upto_region 1 with fail
  (try rw [hbz])
  refine wp_gen (fun W1 => Only Nil W W1 ∧ Blk W1 b 42 [.int .i64 kd, t, y, z]) ⟨(Only.refl _ _).alloc _, HX.out⟩ ?_
  clear HX hbz
  rintro W1 ⟨hO1, hX1⟩
  have HO1 := Lib.hid hO1
  have x0 : W1.cell? ⟨b, 0, none⟩ = some (.int .i64 kd) := hX1.cell 0
  clear hO1 hX1
  go_wp2
  go_ret
  exact ⟨rfl, HA.out _ HO1.out⟩
end
end Go.Proofs.Ytkkjnembjlgiaaa
