/-
  A frame is laid onto the wire.
-/
import Derived.Test.YtkkjnembjlgiaaaWf
import Derived.Test.YtkkjnembjlgiaaaJm
namespace Go.Proofs.Ytkkjnembjlgiaaa
set_option maxRecDepth 100000
open Go.RowKit

def layR (s : WS) (due : Int) (bs : List UInt8) (s' : WS) : Prop :=
  if 4096 ≤ s.ways.length then s' = { s with lost := s.lost + 1 } else ∃ a c, s' = { s with laid := s.laid + 1, ways := pushP s.ways ⟨due, s.laid + 1, a, c, bs⟩ }
structure Fit (s : WS) : Prop where
  now : 0 ≤ s.now ∧ s.now ≤ 1125899906842624
  laid : 0 ≤ s.laid ∧ s.laid ≤ 1000000000000000
  lost : 0 ≤ s.lost ∧ s.lost ≤ 1000000000000000
section
variable {B : Nat} {w w' w1 w2 w3 : World} {F S : Nat → Prop} {b : Nat} {vw vf v' : Value} {s s' : WS}
theorem WireAt.laidOn (hA : WireAt B w F b vw vf s) (hF : ∀ k, F k → B ≤ k ∧ k < w.heap.size) (hB : B ≤ w.heap.size) {due num : Int} {a : Option Addr} {c : Nat} {bs : List UInt8} (h1 : Only Nil w w1) (h2 : Only Nil w1 w2) (hc : OwnB w1.heap.size w2 (.slice a bs.length c) bs)
    (h3 : Only (fun k => vw.ownBlock = some k) w2 w3) (hw : OwW B w3 v' (pushP s.ways ⟨due, num, a, c, bs⟩)) (hn : ∀ k, v'.ownBlock = some k → vw.ownBlock = some k ∨ w2.heap.size ≤ k) :
    Did B w F b { s with ways := pushP s.ways ⟨due, num, a, c, bs⟩ } (w3.setCell ⟨b, 3, none⟩ v') := by
  have h12 := h1.then h2
  have hA2 := hA.only h12 fun _ _ e => e
  have hvw : ∀ k, vw.ownBlock = some k → F k := hA.foot.2.1
  have hbv : vw.ownBlock ≠ some b := ownN_far hA2.ways hA2.blk wire_ne_way
  have hb3 := h3.blk hA2.blk hbv
  have ho4 : Only (One b) w3 (w3.setCell ⟨b, 3, none⟩ v') := (Only.refl _ _).setCell (p := ⟨b, 3, none⟩) (.inl (One.self b)) v'
  have hf3 : OwF B w3 vf s.fates := hA2.fates.only h3 fun k hk e => by
    rcases hA2.fates with ⟨rfl, _⟩ | ⟨g, o, cap, cs, rfl, _, hg, _⟩
    · cases hk
    · obtain rfl : g = k := Option.some.inj hk
      exact ownN_far hA2.ways hg (by decide) e
  have hbyte : ∀ (B' : Nat) (e : Value) (l : List UInt8), OwnB B' w2 e l → OwnB B' (w3.setCell ⟨b, 3, none⟩ v') e l := fun B' e l he => by
    have he3 : OwnB B' w3 e l := own_only he h3 fun k hk e' => by
      rcases hA2.ways.form with ⟨rfl, _⟩ | ⟨g, cap, rfl⟩
      · cases e'
      · obtain rfl : g = k := Option.some.inj e'
        obtain ⟨_, _, _, cs, hg, _⟩ := OwW.row (l := s.ways) hA2.ways
        exact ownN_far he hg (by decide) hk
    exact own_only he3 ho4 fun k hk e' => ownN_far he3 hb3 (by decide) (by rw [hk, show k = b from e'])
  have hsz : w.heap.size ≤ w1.heap.size ∧ w1.heap.size ≤ w2.heap.size ∧ w2.heap.size ≤ w3.heap.size ∧ w3.heap.size ≤ (w3.setCell ⟨b, 3, none⟩ v').heap.size := ⟨h1.size, h2.size, h3.size, ho4.size⟩
  have hmem : ∀ e, e ∈ pushP s.ways ⟨due, num, a, c, bs⟩ ↔ e = ⟨due, num, a, c, bs⟩ ∨ e ∈ s.ways := fun e => by rw [(pushP_perm _ _).mem_iff, List.mem_cons]
  have hnew : ∀ k, (Value.slice a bs.length c).ownBlock = some k → w.heap.size ≤ k ∧ k < w2.heap.size := fun k hk => ⟨Nat.le_trans hsz.1 (own_block hc k hk).1, (own_block hc k hk).2⟩
  have hlow : ∀ e ∈ s.ways, ∀ k, e.d.ownBlock = some k → k < w.heap.size := fun e he k hk => (hF k (hA.foot.2.2.2 e he k hk)).2
  have hvlt : ∀ k, v'.ownBlock = some k → k < w3.heap.size := fun k hk => (ownN_block hw k hk).2
  refine ⟨⟨Wide F w (w3.setCell ⟨b, 3, none⟩ v'), ⟨⟨v', vf, ⟨?_, ?_, ?_, ?_, ?_, ?_⟩⟩, ?_, ?_⟩, ?_⟩, ?_⟩
  · have := hb3.set 3 v'
    exact this
  · refine ownN_only hw ho4 fun k hk e => ?_
    rw [show k = b from e] at hk
    rcases hn b hk with h | h
    · exact hbv h
    · have := (hF b hA.foot.1).2
      omega
  · exact hf3.only ho4 fun k hk e => fate_far hf3 hb3 (by decide) (by rw [hk, show k = b from e])
  · intro e he
    rcases (hmem e).1 he with rfl | h
    · have h5 := hbyte _ _ _ hc
      refine ⟨h5.1, h5.2.imp id fun ⟨g, cap, cur, e1, e2, e3⟩ => ⟨g, cap, cur, e1, by omega, e3⟩⟩
    · exact hbyte _ _ _ (hA2.each e h)
  · refine List.Pairwise.perm ?_ (pushP_perm _ _).symm fun h => Far.symm h
    refine List.Pairwise.cons (fun e he k hk hk' => ?_) hA.far
    have := hnew k hk
    have := hlow e he k hk'
    omega
  · refine ⟨.inl hA.foot.1, fun k hk => ?_, fun k hk => .inl (hA.foot.2.2.1 k hk), fun e he k hk => ?_⟩
    · rcases hn k hk with h | h
      · exact .inl (hvw k h)
      · exact .inr ⟨by omega, by have := hvlt k hk; omega⟩
    · rcases (hmem e).1 he with rfl | h
      · have := hnew k hk
        exact .inr ⟨this.1, by omega⟩
      · exact .inl (hA.foot.2.2.2 e h k hk)
  · intro k hk
    rcases hk with hk | hk
    · have := hF k hk
      omega
    · omega
  · omega
  · intro k hk
    rcases hk with hk | hk
    · exact .inl hk
    · exact .inr hk.1
  · exact ((h12.mono (T := F) fun _ _ e => e.elim).trans h3 fun k hk => .inl (hvw k hk)).setCell (p := ⟨b, 3, none⟩) (.inl hA.foot.1) _
theorem Did.from (ho : Only F w w1) (hd : Did B w1 F b s' w') : Did B w F b s' w' := by
  obtain ⟨F', h, hF⟩ := hd.wire
  exact ⟨⟨F', h, fun k hk => (hF k hk).imp id fun h => Nat.le_trans ho.size h⟩, ho.then hd.only⟩
set_option maxHeartbeats 3200000 in
theorem lay_any (h : IsWire B w F b s) (hf : Fit s) (due : Int) (v : Value) (bs : List UInt8) (hv : RB w v bs) (hl : bs.length ≤ 140737488355328) (hd : 0 < bs.length → ∀ k, blkOf v = some k → ¬ F k) :
    Calls Try.prog 32 #[.pointer (some ⟨b, 0, none⟩), .int .i64 due, v] w fun e w' => e = .returned (.tuple #[]) ∧ ∃ s', layR s due bs s' ∧ Did B w F b s' w' := by
  obtain ⟨vw, vf, hA⟩ := h.at'
  have c3 := hA.c3
  have f1 := hA.blk.free 1
  have f2 := hA.blk.free 2
  have c1 := hA.c1
  have c2 := hA.c2
  have hft := hf
  obtain ⟨_, hfl, hfs⟩ := hft
  have HH := Lib.hid h
  have HA := Lib.hid hA
  have HV := Lib.hid hv
  have HD := Lib.hid hd
  obtain ⟨A, cap, hvw⟩ := hA.ways.slice
  rw [hvw] at c3
  have HVW := Lib.hid hvw
  obtain ⟨A', cap', rfl, _⟩ := hv.form
  clear h hA hv hd hvw hf
  by_cases hfull : 4096 ≤ s.ways.length
  · have d1 : (4096 : Int) ≤ (s.ways.length : Int) := by omega
    have HLR := Lib.hid (show layR s due bs { s with lost := s.lost + 1 } from by unfold layR; rw [if_pos hfull])
    have wl : IntKind.i64.wrap (s.lost + 1) = s.lost + 1 := IntWalk.i64_in _ (by omega)
    go_enter Try.func32, Try.ntmps32
    go_wp2
    refine bodyPost_ret (results_none rfl _ _ _) rfl ?_
    exact ⟨rfl, _, HLR.out, HH.out.put HA.out 2 _ _ rfl rfl rfl⟩
  · have d1 : ¬ (4096 : Int) ≤ (s.ways.length : Int) := by omega
    have wl : IntKind.i64.wrap (s.laid + 1) = s.laid + 1 := IntWalk.i64_in _ (by omega)
    have HFU := Lib.hid hfull
    go_enter Try.func32, Try.ntmps32
    go_upto_region 3 with fail
    refine wp_gen (fun W => WireAt B W F b vw vf { s with laid := s.laid + 1 } ∧ Only F w W ∧ RB W (.slice A' bs.length cap') bs) ⟨HA.out.put 1 _ { s with laid := s.laid + 1 } rfl rfl rfl, (Only.refl _ _).setCell (p := ⟨b, 1, none⟩) (.inl HA.out.foot.1) _, ?_⟩ ?_
    · exact HV.out.off ((Only.refl (One b) w).setCell (p := ⟨b, 1, none⟩) (.inl (One.self b)) _) fun h0 g hg e => HD.out h0 g hg (by rw [show g = b from e]; exact HA.out.foot.1)
    clear c1 c2 c3 f1 f2
    rintro w1 ⟨hA1, hO1, hv1⟩
    have c1 := hA1.c1
    have c3 := hA1.c3
    have f3 := hA1.blk.free 3
    have c1 : w1.cell? ⟨b, 1, none⟩ = some (.int .i64 (s.laid + 1)) := c1
    have H1 := Lib.hid hA1
    have HO1 := Lib.hid hO1
    have HV1 := Lib.hid hv1
    clear hA1 hO1 hv1
    have hcl := clone_any (.slice A' bs.length cap') bs w1.drew HV1.out.drew hl
    go_region_law (first
      | (go_simp; go_at_call 41; refine hcl.mono ?_; rintro e w2 ⟨a, c, rfl, hO2, ho2⟩; have HO2 := Lib.hid hO2; have Ho2 := Lib.hid ho2; have c3' := ho2.cell (show w1.drew.cell? ⟨b, 3, none⟩ = some vw from c3) id; have c1' := ho2.cell (show w1.drew.cell? ⟨b, 1, none⟩ = some (.int .i64 (s.laid + 1)) from c1) id; clear hO2 ho2)
      | (go_simp; go_at_call 40; refine (push_any B vw s.ways ⟨due, s.laid + 1, a, c, bs⟩ w2 (ownN_only (ownN_only H1.out.ways ((Only.refl Nil w1).drew) fun _ _ => id) Ho2.out fun _ _ => id) (Nat.le_trans HH.out.base (Nat.le_trans HO1.out.size Ho2.out.size)) (by omega)).mono ?_; rintro e w3 ⟨v', rfl, hw3, ho3, hn3⟩; obtain ⟨A3, q3, rfl⟩ := hw3.slice; have HD3 := Lib.hid (H1.out.laidOn (fun k hk => ⟨(HH.out.own k hk).1, Nat.lt_of_lt_of_le (HH.out.own k hk).2 HO1.out.size⟩) (Nat.le_trans HH.out.base HO1.out.size) (Only.refl Nil w1).drew Ho2.out HO2.out ho3 hw3 hn3); have hb3 := (ho3.blk (Ho2.out.blk H1.out.blk.drew id) (ownN_far (ownN_only (ownN_only H1.out.ways ((Only.refl Nil w1).drew) fun _ _ => id) Ho2.out fun _ _ => id) (Ho2.out.blk H1.out.blk.drew id) wire_ne_way)); have d3 : w3.cell? ⟨b, 3, none⟩ = some vw := hb3.cell 3; have z3 := hb3.free 3; clear hw3 ho3 hn3 hb3))
    all_goals
      go_end0
      exact ⟨rfl, _, by unfold layR; rw [if_neg HFU.out]; exact ⟨a, c, rfl⟩, Did.from HO1.out HD3.out⟩
end
end Go.Proofs.Ytkkjnembjlgiaaa
