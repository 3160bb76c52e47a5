/-
  HoldPlays: a call at both (step), kind by kind.
-/
import Derived.Test.YthkongkbefpilaaDoorHx
namespace Go.Proofs.YthkongkbefpilaaDoor
set_option maxRecDepth 100000
open Go.RowKit Sha

section
variable {B : Nat} {a0 a1 : Addr} {W : World} {FH FX FK : Nat → Prop} {kb h x : Nat} {s : HS} {ls : List Ls}
set_option maxHeartbeats 3200000 in
theorem step_add (S0 : Set0 B a0 a1 W FH FX FK kb h x s ls) (xa : Option Addr) (xc : Nat) (bs : List UInt8) (hb : RB W (.slice xa bs.length xc) bs) (hl : bs.length ≤ 140737488355328) (hB : 0 < bs.length → ∀ k, blkOf (.slice xa bs.length xc) = some k → k < B) :
    Calls Tryd.prog 14 #[.pointer (some ⟨kb, 0, none⟩), .pointer (some ⟨h, 0, none⟩), .pointer (some ⟨x, 0, none⟩), .agg #[.int .i64 1, .slice xa bs.length xc]] W fun e W' => e = .returned (.bool true) ∧ After B W FH FX FK kb h x 1 ls W' := by
  obtain ⟨b, hbz⟩ : ∃ b, W.heap.size = b := ⟨_, rfl⟩
  have H0 := Lib.hid S0
  have HB := Lib.hid hB
  have HRB := Lib.hid hb
  have HX := Lib.hid (show Blk (W.alloc (.cells #[.int .i64 1, .slice xa bs.length xc] 42)) b 42 [.int .i64 1, .slice xa bs.length xc] from hbz ▸ Blk.new W _ _)
  have HZ := Lib.hid hbz
  clear S0 hB hb
  go_enter Tryd.func14, Tryd.ntmps14
  go_upto_region 1 with fail
  (try rw [hbz])
  refine wp_gen (fun W1 => Only Nil W W1 ∧ Blk W1 b 42 [.int .i64 1, .slice xa bs.length xc]) ⟨(Only.refl _ _).alloc _, HX.out⟩ ?_
  clear HX hbz
  rintro W1 ⟨hO1, hX1⟩
  have HO1 := Lib.hid hO1
  have HX1 := Lib.hid hX1
  have x0 : W1.cell? ⟨b, 0, none⟩ = some (.int .i64 1) := hX1.cell 0
  have x1 : W1.cell? ⟨b, 1, none⟩ = some (.slice xa bs.length xc) := hX1.cell 1
  have HL := Lib.hid (lentb_any (.slice xa bs.length xc) bs W1 (HRB.out.only hO1 fun _ _ e => e) hl)
  obtain ⟨g, hg⟩ : ∃ b, W1.heap.size = b := ⟨_, rfl⟩
  rw [hg] at HL
  have HG := Lib.hid hg
  have hFb : ∀ k, FH k ∨ FX k → k < b := fun k hk => by have := (H0.out.pair.lt hk).2; rw [HZ.out] at this; exact this
  have HFb := Lib.hid hFb
  have HXL := Lib.hid hX1.lt
  clear hO1 hX1 hg hFb
  go_upto_region 4 with (go_at_call 24; refine HL.out.mono ?_; rintro e W2 ⟨rfl, hb2, ho2⟩; have y1 : W2.cell? ⟨b, 1, none⟩ = some (.slice xa bs.length xc) := (ho2.blk HX1.out id).cell 1)
  have HB2 := Lib.hid hb2
  have HO2 := Lib.hid ho2
  have hgl : g < W2.heap.size := hb2.lt
  have hbg : b < g := by have := HXL.out; rw [HG.out] at this; exact this
  have HADD := Lib.hid (Add_any ((H0.out.nil (HO1.out.then ho2)).pair.hold) (H0.out.nil (HO1.out.then ho2)).errs (.slice (some ⟨g, 0, none⟩) bs.length (bs.length + 2)) bs ⟨_, _, rfl, by omega, fun _ => ⟨g, 0, rfl, fun j hj => by
    rw [Nat.zero_add, hb2.cell, BC_append, List.getElem?_append_left (by rw [BC_length]; exact hj)]
    exact BC_get _ _ hj⟩⟩ (fun _ k hk hF => by
      have e : g = k := Option.some.inj hk
      have := HFb.out k (.inl hF)
      omega))
  clear hb2 ho2 x0 x1 HL
  go_upto_region 5 with (go_at_call 17; refine HADD.out.mono ?_; rintro e W3 ⟨rfl, hd3⟩; have y3 : W3.cell? ⟨b, 1, none⟩ = some (.slice xa bs.length xc) := (hd3.only.blk (HO2.out.blk HX1.out id) (fun e => by have := HFb.out b (.inl e); omega)).cell 1)
  have HD3 := Lib.hid hd3
  have hX3 := hd3.only.blk (HO2.out.blk HX1.out id) (fun e => by have := HFb.out b (.inl e); omega)
  have HX3 := Lib.hid hX3
  have HR3 := Lib.hid ((((H0.out.nil (HO1.out.then HO2.out)).pair).first hd3).2.1)
  have HRB3 := Lib.hid ((HRB.out.only (HO1.out.then HO2.out) fun _ _ e => e).offL hd3.only fun h0 k hk e => by
      have h1 := HB.out h0 k hk
      have h2 := (H0.out.pair.lt (.inl e)).1
      omega)
  have HRADD := Lib.hid (radd_any HR3.out (.slice xa bs.length xc) bs HRB3.out (fun h0 k hk => by
      have h1 := HB.out h0 k hk
      refine ⟨fun e => ?_, ?_⟩
      · have h2 := (H0.out.pair.lt (.inr e)).1
        omega
      · have := HR3.out.base
        omega))
  have HB3 := Lib.hid (hd3.only.blk HB2.out (fun e => by have := HFb.out g (.inl e); omega))
  clear hd3 hX3 y1 HADD
  go_upto_region 6 with (go_at_call 25; refine HRADD.out.mono ?_; rintro e W4 ⟨rfl, hd4⟩; have y4 : W4.cell? ⟨b, 1, none⟩ = some (.slice xa bs.length xc) := (hd4.only.blk HX3.out (fun e => by have := HFb.out b (.inr e); omega)).cell 1)
  have HD4 := Lib.hid hd4
  have HAS := Lib.hid (aslent_any g (.slice xa bs.length xc) bs W4 (hd4.only.blk HB3.out (fun e => by have := HFb.out g (.inr e); omega)) (HRB3.out.offL hd4.only fun h0 k hk e => by
      have h1 := HB.out h0 k hk
      have h2 := (H0.out.pair.lt (.inr e)).1
      omega) hl)
  clear hd4 y3 HRADD
  go_wp2_with (go_at_call 26; refine HAS.out.mono ?_; rintro e W5 ⟨rfl, ho5⟩)
  go_ret
  exact ⟨rfl, H0.out.both (HO1.out.then HO2.out) HD3.out (Only.refl _ _) HD4.out (fun k e => by rw [show k = g from e, HZ.out]; exact ⟨by omega, hgl⟩) ho5⟩
end
end Go.Proofs.YthkongkbefpilaaDoor
