/-
  WirePlays: a call at both (step): Put.
-/
import Derived.Test.YtkkjnembjlgiaaaVi
namespace Go.Proofs.Ytkkjnembjlgiaaa
set_option maxRecDepth 100000
open Go.RowKit

open Classical in
/-- New colours: what was there keeps its own. -/
noncomputable def paintP (n : Nat) (c : Nat → Nat) (P Q R : Nat → Prop) (i j : Nat) : Nat → Nat := fun k => if k < n then c k else if P k then i else if Q k then j else if R k then 7 else 0
section
variable {B : Nat} {W W' W1 W2 W3 W4 : World} {c c' : Nat → Nat} {F G T : Nat → Prop} {i j w x kb bk n : Nat} {s r s' r' : WS} {ks ks' : List Ke}
/-- Both are changed, one behind the other. -/
theorem After.both (H : Half B W c i j w x s r n) (K : Kept B W c kb bk ks) (hk : KsOk ks) (hij : IJ i j) (hF : IsWire B W F w s) (hFc : ∀ k, F k → c k = i) (hG : IsVire B W G x r) (hGc : ∀ k, G k → c k = j)
    (h2 : Only Nil W W2) (hd : Did B W2 F w s' W3) (hv : DidV B W3 G x r r' W4) (hrel : Rel s' r') (hsane : Sane s' (n + 1)) (h5 : Only T W4 W') (hT : ∀ k, T k → W.heap.size ≤ k ∧ k < W2.heap.size) : After B W c i j w x kb bk n ks W' := by
  obtain ⟨F', hw, hF'⟩ := hd.wire
  obtain ⟨G', hx, hG', hGR⟩ := hv.tight
  have z2 := h2.size
  have z3 := hd.only.size
  have z4 := hv.only.size
  have lF : ∀ k, F k → k < W.heap.size := fun k hk => (hF.own k hk).2
  have lG : ∀ k, G k → k < W.heap.size := fun k hk => (hG.own k hk).2
  have lR : ∀ k, Frs r.ways k → k < W.heap.size ∧ c k = 7 := fun k hk => ⟨(hG.frs hk).1.2, H.frs k hk⟩
  have lF' : ∀ k, F' k → (F k ∧ c k = i) ∨ (W2.heap.size ≤ k ∧ k < W3.heap.size) := fun k hk => (hF' k hk).imp (fun h => ⟨h, hFc k h⟩) fun h => ⟨h, (hw.own k hk).2⟩
  have lG' : ∀ k, G' k → (G k ∧ c k = j) ∨ W3.heap.size ≤ k := fun k hk => (hG' k hk).imp (fun h => ⟨h, hGc k h⟩) id
  have lR' : ∀ k, Frs r'.ways k → (k < W.heap.size ∧ c k = 7) ∨ W3.heap.size ≤ k := fun k hk => (hv.frs k hk).imp (lR k) id
  have hne := hij.ne
  have h05 := hij.i5
  have h06 := hij.j5
  refine ⟨paintP W.heap.size c F' G' (Frs r'.ways) i j, s', r', ks, ⟨⟨F', ?_, fun k hk => ?_⟩, ⟨G', ?_, fun k hk => ?_⟩, fun k hk => ?_, hrel, hsane⟩, ?_, hk, Nat.le_succ _, fun k hk _ => ?_, ?_⟩
  · refine (hw.only hv.only fun k hk e => ?_).only h5 fun k hk e => ?_
    · have h1 := hGc k e
      have h2 := lG k e
      rcases lF' k hk with h | h
      · omega
      · omega
    · have h1 := hT k e
      rcases lF' k hk with h | h
      · have := lF k h.1; omega
      · omega
  · unfold paintP
    rcases lF' k hk with h | h
    · rw [if_pos (lF k h.1)]
      exact h.2
    · rw [if_neg (by omega), if_pos hk]
  · refine hx.only h5 (fun k hk e => ?_) fun k hk e => ?_
    · have h1 := hT k e
      rcases lG' k hk with h | h
      · have := lG k h.1; omega
      · omega
    · have h1 := hT k e
      rcases lR' k hk with h | h
      · omega
      · omega
  · unfold paintP
    rcases lG' k hk with h | h
    · rw [if_pos (lG k h.1)]
      exact h.2
    · rw [if_neg (by omega), if_neg (fun e => ?_), if_pos hk]
      rcases lF' k e with h' | h'
      · have := lF k h'.1; omega
      · omega
  · unfold paintP
    rcases lR' k hk with h | h
    · rw [if_pos h.1]
      exact h.2
    · rw [if_neg (by omega), if_neg (fun e => ?_), if_neg (fun e => hGR k e hk), if_pos hk]
      rcases lF' k e with h' | h'
      · have := lF k h'.1; omega
      · omega
  · have hO : Only (fun k => F k ∨ G k) W W' := (((h2.mono (T := fun k => F k ∨ G k) fun _ _ e => e.elim).then (hd.only.mono fun _ _ e => .inl e)).then (hv.only.mono fun _ _ e => .inr e)).trans h5 fun k e => .inr (hT k e).1
    refine K.keep hO (fun k hk e => ?_) fun k hk _ => ?_
    · rcases e with e | e
      · have := hFc k e; omega
      · have := hGc k e; omega
    · unfold paintP
      rw [if_pos hk]
  · unfold paintP
    rw [if_pos hk]
  · exact (((h2.mono (T := Wr3 c i j) fun _ _ e => e.elim).then (hd.only.mono fun k _ e => .inl (hFc k e))).then (hv.only.mono fun k _ e => .inr (.inl (hGc k e)))).trans h5 fun k e => .inr (hT k e).1
set_option maxHeartbeats 3200000 in
theorem step_put (H : Half B W c i j w x s r n) (K : Kept B W c kb bk ks) (hk : KsOk ks) (hij : IJ i j) (hn : n ≤ 100000000) (t : Int) (ht : -9223372036854775808 ≤ t ∧ t ≤ 9223372036854775807) (xa : Option Addr) (xc : Nat) (bs : List UInt8) (z : Value) (hb : RB W (.slice xa bs.length xc) bs) (hl : bs.length ≤ 100000000000) (hB : 0 < bs.length → ∀ k, blkOf (.slice xa bs.length xc) = some k → k < B) :
    Calls Try.prog 10 #[.pointer (some ⟨kb, 0, none⟩), .pointer (some ⟨w, 0, none⟩), .pointer (some ⟨x, 0, none⟩), .agg #[.int .i64 1, .int .i64 t, .slice xa bs.length xc, z]] W fun e W' => e = .returned (.bool true) ∧ After B W c i j w x kb bk n ks W' := by
  obtain ⟨b, hbz⟩ : ∃ b, W.heap.size = b := ⟨_, rfl⟩
  obtain ⟨F, hF, hFc⟩ := H.wire
  obtain ⟨G, hG, hGc⟩ := H.vire
  have HZ := Lib.hid hbz
  have HA := Lib.hid (fun (W2 W3 W4 W' : World) (s' r' : WS) (T : Nat → Prop) => After.both (W2 := W2) (W3 := W3) (W4 := W4) (W' := W') (s' := s') (r' := r') (T := T) H K hk hij hF hFc hG hGc)
  have HIJ := Lib.hid hij
  have HFC := Lib.hid hFc
  have HGC := Lib.hid hGc
  have HFR := Lib.hid H.frs
  have HF := Lib.hid hF
  have HG := Lib.hid hG
  have HS := Lib.hid H.sane
  have HR := Lib.hid H.rel
  have HB := Lib.hid hB
  have HRB := Lib.hid hb
  have HX := Lib.hid (show Blk (W.alloc (.cells #[.int .i64 1, .int .i64 t, .slice xa bs.length xc, z] 42)) b 42 [.int .i64 1, .int .i64 t, .slice xa bs.length xc, z] from hbz ▸ Blk.new W _ _)
  have HFb := Lib.hid (show ∀ k, F k ∨ G k → B ≤ k ∧ k < b from fun k hk => by rw [← hbz]; exact hk.elim (hF.own k) (hG.own k))
  clear H K hk hF hFc hG hGc hb hB hij
  go_enter Try.func10, Try.ntmps10
  go_upto_region 1 with fail
  (try rw [hbz])
  refine wp_gen (fun W1 => Only Nil W W1 ∧ Blk W1 b 42 [.int .i64 1, .int .i64 t, .slice xa bs.length xc, z]) ⟨(Only.refl _ _).alloc _, HX.out⟩ ?_
  clear HX hbz
  rintro W1 ⟨hO1, hX1⟩
  have HO1 := Lib.hid hO1
  have HX1 := Lib.hid hX1
  have x0 : W1.cell? ⟨b, 0, none⟩ = some (.int .i64 1) := hX1.cell 0
  have x2 : W1.cell? ⟨b, 2, none⟩ = some (.slice xa bs.length xc) := hX1.cell 2
  have HL := Lib.hid (lentb_any (.slice xa bs.length xc) bs W1 (HRB.out.only hO1 fun _ _ e => e) (by omega))
  obtain ⟨g, hg⟩ : ∃ b, W1.heap.size = b := ⟨_, rfl⟩
  rw [hg] at HL
  have HG1 := Lib.hid hg
  have HXL := Lib.hid hX1.lt
  clear hO1 hX1 hg
  go_upto_region 4 with (go_at_call 19; refine HL.out.mono ?_; rintro e W2 ⟨rfl, hb2, ho2⟩; have y1 : W2.cell? ⟨b, 1, none⟩ = some (.int .i64 t) := (ho2.blk HX1.out id).cell 1)
  have HB2 := Lib.hid hb2
  have HO2 := Lib.hid (HO1.out.then ho2)
  have hgl : g < W2.heap.size := hb2.lt
  have hbg : b < g := by have := HXL.out; rw [HG1.out] at this; exact this
  have HP := Lib.hid (put_any (HF.out.only HO2.out fun _ _ e => e) HS.out.fit (by have := HS.out.laid; have := HS.out.lost; omega) t ht (.slice (some ⟨g, 0, none⟩) bs.length (bs.length + 2)) bs ⟨⟨_, _, rfl, by omega, fun _ => ⟨g, 0, rfl, fun j hj => by
    rw [Nat.zero_add, hb2.cell, BC_append, List.getElem?_append_left (by rw [BC_length]; exact hj)]
    exact BC_get _ _ hj⟩⟩, fun _ k hk hF => by
      have e : g = k := Option.some.inj hk
      have := HFb.out k (.inl hF)
      omega⟩ (by omega))
  have hX2 := ho2.blk HX1.out id
  have HX2 := Lib.hid hX2
  clear hb2 ho2 x0 x2 HL hX2
  go_upto_region 5 with (go_at_call 13; refine HP.out.mono ?_; rintro e W3 ⟨rfl, s', hp3, hd3⟩; have y3 : W3.cell? ⟨b, 1, none⟩ = some (.int .i64 t) := (hd3.only.blk HX2.out (fun e => by have := HFb.out b (.inl e); omega)).cell 1; have y32 : W3.cell? ⟨b, 2, none⟩ = some (.slice xa bs.length xc) := (hd3.only.blk HX2.out (fun e => by have := HFb.out b (.inl e); omega)).cell 2)
  have HP3 := Lib.hid hp3
  have HD3 := Lib.hid hd3
  have hX3 := hd3.only.blk HX2.out (fun e => by have := HFb.out b (.inl e); omega)
  have HX3 := Lib.hid hX3
  have HRB3 := Lib.hid ((HRB.out.only HO2.out fun _ _ e => e).off hd3.only fun h0 k hk e => by
      have h1 := HB.out h0 k hk
      have h2 := (HFb.out k (.inl e)).1
      omega)
  have HV3 := Lib.hid ((HG.out.nil HO2.out).only hd3.only (fun k hk e => by
      have h1 := HGC.out k hk
      have h2 := HFC.out k e
      have h3 := HIJ.out.ne
      omega) fun k hk e => by
      have h1 := HFR.out k hk
      have h2 := HFC.out k e
      have h3 := HIJ.out.i5
      omega)
  have HRP := Lib.hid (rput_any HV3.out (HR.out.fit HS.out.fit) (by have := HS.out.laid; have := HS.out.lost; have := HR.out.laid; have := HR.out.lost; omega) t (.slice xa bs.length xc) bs ⟨HRB3.out, fun h0 k hk e => by
      have h1 := HB.out h0 k hk
      have h2 := (HFb.out k (.inr e)).1
      omega⟩ (by omega))
  have HB3 := Lib.hid (hd3.only.blk HB2.out (fun e => by have := HFb.out g (.inl e); omega))
  clear hp3 hd3 hX3 y1 HP
  go_upto_region 6 with (go_at_call 20; refine HRP.out.mono ?_; rintro e W4 ⟨rfl, r', hp4, hd4⟩; have y4 : W4.cell? ⟨b, 2, none⟩ = some (.slice xa bs.length xc) := (hd4.only.blk HX3.out (fun e => by have := HFb.out b (.inr e); omega)).cell 2)
  have HP4 := Lib.hid hp4
  have HD4 := Lib.hid hd4
  have HAS := Lib.hid (aslent_any g (.slice xa bs.length xc) bs W4 (hd4.only.blk HB3.out (fun e => by have := HFb.out g (.inr e); omega)) (HRB3.out.off hd4.only fun h0 k hk e => by
      have h1 := HB.out h0 k hk
      have h2 := (HFb.out k (.inr e)).1
      omega) (by omega))
  clear hp4 hd4 y3 y32 HRP
  go_wp2_with (go_at_call 21; refine HAS.out.mono ?_; rintro e W5 ⟨rfl, ho5⟩)
  go_ret
  exact ⟨rfl, HA.out _ _ _ _ _ _ _ HO2.out HD3.out HD4.out (HR.out.put HP3.out HP4.out) (HS.out.put hn HP3.out hl) ho5 (fun k e => by rw [show k = g from e, HZ.out]; exact ⟨by omega, hgl⟩)⟩
end
end Go.Proofs.Ytkkjnembjlgiaaa
