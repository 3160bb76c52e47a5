/-
  WirePlays: a call at both (step): Due; any call (step_any).
-/
import Derived.Test.YtkkjnembjlgiaaaVm
namespace Go.Proofs.Ytkkjnembjlgiaaa
set_option maxRecDepth 100000
open Go.RowKit

section
variable {B : Nat} {W W' W1 W2 W3 W4 : World} {c c' : Nat → Nat} {F G T : Nat → Prop} {i j w x kb bk n : Nat} {s r s' r' : WS} {ks ks' : List Ke}
theorem DueR.only {t : Int} {vl : Value} (h : DueR B W F w s t vl W') : Only F W W' := by
  obtain ⟨w1, F1, F', hmv, hF1, hD⟩ := h
  exact hmv.only.trans hD.only hF1
theorem After.took {vl vl2 : Value} {o1 o2 : List Wy} (D : DueBoth B W c i j w x kb bk n ks vl vl2 W4 c' s' r' o1 o2) (hij : IJ i j) (hk : KsOk ks) (ho : Only (fun k => c' k = 5) W4 W') (K : Kept B W' c' kb bk (ks ++ [⟨vl, o1, vl2, o2⟩])) : After B W c i j w x kb bk n ks W' := by
  have h05 := hij.i5
  have h06 := hij.j5
  refine ⟨c', s', r', _, ⟨(D.half.only ho fun k hk => ?_).mono, K, fun e he => ?_, by simp, D.colour, ?_⟩⟩
  · have : c' k = 5 := hk
    omega
  · rcases List.mem_append.1 he with he | he
    · exact hk e he
    · rw [List.mem_singleton.1 he]
      exact D.few
  · exact D.only.trans (ho.mono (T := fun k => Wr3 c i j k ∨ W.heap.size ≤ k) fun k _ e => by
      by_cases hl : k < W.heap.size
      · exact .inl ((D.mine k hl e).imp id .inr)
      · exact .inr (by omega)) fun k e => e
set_option maxHeartbeats 3200000 in
theorem step_due (H : Half B W c i j w x s r n) (K : Kept B W c kb bk ks) (hk : KsOk ks) (hij : IJ i j) (hn : ks.length ≤ 100000000000) (t : Int) (ht : -9223372036854775808 ≤ t ∧ t ≤ 9223372036854775807) (y z : Value) :
    Calls Try.prog 10 #[.pointer (some ⟨kb, 0, none⟩), .pointer (some ⟨w, 0, none⟩), .pointer (some ⟨x, 0, none⟩), .agg #[.int .i64 2, .int .i64 t, y, z]] W fun e W' => e = .returned (.bool true) ∧ After B W c i j w x kb bk n ks W' := by
  obtain ⟨b, hbz⟩ : ∃ b, W.heap.size = b := ⟨_, rfl⟩
  obtain ⟨F, hF, hFc⟩ := H.wire
  obtain ⟨G, hG, hGc⟩ := H.vire
  have HZ := Lib.hid hbz
  have hfew : r.ways.length ≤ 4096 := by rw [H.rel.mt.len]; exact H.sane.few
  have HIJ := Lib.hid hij
  have HFC := Lib.hid hFc
  have HGC := Lib.hid hGc
  have HF := Lib.hid hF
  have HG := Lib.hid hG
  have HH := Lib.hid H
  have HK := Lib.hid K
  have HKO := Lib.hid hk
  have HX := Lib.hid (show Blk (W.alloc (.cells #[.int .i64 2, .int .i64 t, y, z] 42)) b 42 [.int .i64 2, .int .i64 t, y, z] from hbz ▸ Blk.new W _ _)
  have HFb := Lib.hid (show ∀ k, F k ∨ G k → B ≤ k ∧ k < b from fun k hk => by rw [← hbz]; exact hk.elim (hF.own k) (hG.own k))
  clear H K hk hF hFc hG hGc hij
  go_enter Try.func10, Try.ntmps10
  go_upto_region 1 with fail
  (try rw [hbz])
  refine wp_gen (fun W1 => Only Nil W W1 ∧ Blk W1 b 42 [.int .i64 2, .int .i64 t, y, z]) ⟨(Only.refl _ _).alloc _, HX.out⟩ ?_
  clear HX hbz
  rintro W1 ⟨hO1, hX1⟩
  have HO1 := Lib.hid hO1
  have HX1 := Lib.hid hX1
  have x0 : W1.cell? ⟨b, 0, none⟩ = some (.int .i64 2) := hX1.cell 0
  have x1 : W1.cell? ⟨b, 1, none⟩ = some (.int .i64 t) := hX1.cell 1
  have HD := Lib.hid (due_any (HF.out.only hO1 fun _ _ e => e) HH.out.sane.few t ht)
  clear hO1 hX1
  go_upto_region 9 with (go_at_call 14; refine HD.out.mono ?_; rintro e W2 ⟨vl, rfl, hd2⟩; have y1 : W2.cell? ⟨b, 1, none⟩ = some (.int .i64 t) := (hd2.only.blk HX1.out (fun e => by have := HFb.out b (.inl e); omega)).cell 1)
  have HD2 := Lib.hid hd2
  have HV2 := Lib.hid ((HG.out.nil HO1.out).only hd2.only (fun k hk e => by
      have h1 := HGC.out k hk
      have h2 := HFC.out k e
      have h3 := HIJ.out.ne
      omega) fun k hk e => by
      have h1 := HH.out.frs k hk
      have h2 := HFC.out k e
      have h3 := HIJ.out.i5
      omega)
  have HRD := Lib.hid (rdue_any HV2.out (HH.out.rel.fit HH.out.sane.fit).now.2 hfew t)
  clear hd2 x0 x1 HD
  go_upto_region 10 with (go_at_call 22; refine HRD.out.mono ?_; rintro e W3 ⟨vl2, rfl, hd3⟩)
  have HD3 := Lib.hid hd3
  obtain ⟨c3, s3, r3, o1, o2, D3⟩ := HH.out.due HK.out HIJ.out HF.out HFC.out HG.out HGC.out HO1.out HD2.out hd3 (Only.refl Nil W3)
  have HSM := Lib.hid (same_any vl vl2 _ _ _ _ W3 (parts_of_rows D3.row D3.frames) (parts_of_rows D3.row2 D3.frames2) (by rw [List.length_map]; have := D3.few.1; omega))
  have HSE := Lib.hid D3.same
  obtain ⟨A1, q1, rfl⟩ := own_slice1 D3.row
  obtain ⟨A2, q2, rfl⟩ := own_slice1 D3.row2
  have hdec : decide (o1.map Wy.bs = o2.map Wy.bs) = true := by simpa using D3.same
  rw [hdec] at HSM
  clear hd3 y1 HRD hdec
  obtain ⟨n1, hn1⟩ : ∃ n1, o1.length = n1 := ⟨_, rfl⟩
  obtain ⟨n2, hn2⟩ : ∃ n2, o2.length = n2 := ⟨_, rfl⟩
  have HN := Lib.hid (show o1.length = n1 ∧ o2.length = n2 from ⟨hn1, hn2⟩)
  rw [hn1] at HSM HD2 ⊢
  rw [hn2] at HSM HD3 ⊢
  clear hn1 hn2 D3
  go_upto_region 11 with (go_at_call 18; refine HSM.out.mono ?_; rintro e W4 ⟨rfl, ho4⟩)
  obtain ⟨c', s', r', p1, p2, D⟩ := HH.out.due HK.out HIJ.out HF.out HFC.out HG.out HGC.out HO1.out HD2.out HD3.out ho4
  have HDD := Lib.hid D
  have HT := Lib.hid (ktake_any D.kept ⟨_, p1, _, p2⟩ D.new D.row D.row2 D.frames D.frames2 D.same D.farR D.far D.far2 D.foot hn)
  clear D ho4
  go_wp2_with (go_at_call 23; refine HT.out.mono ?_; rintro e W5 ⟨rfl, ho5, hk5⟩)
  go_ret
  exact ⟨rfl, After.took HDD.out HIJ.out HKO.out ho5 hk5⟩
end
end Go.Proofs.Ytkkjnembjlgiaaa
