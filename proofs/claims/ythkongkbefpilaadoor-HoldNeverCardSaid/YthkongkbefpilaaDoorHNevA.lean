/-
  HoldNever: what a round of its loop does.
-/
import Derived.Test.YthkongkbefpilaaDoorHe
import Derived.Deep.CutBlock
namespace Go.Proofs.YthkongkbefpilaaDoor
set_option maxRecDepth 100000
open Go.RowKit Sha

/-- What the three variables of the loop hold: the image, is it sealed, the round. -/
def Nev (a0 a1 : Addr) (wb : World) (h : Nat) (most : Int) (want : List UInt8) (im se : Value) (W : World) : Prop :=
  ∃ s : HS, s.most = most ∧ s.want = want ∧ im = .string (str s.img) ∧ se = .bool s.shut ∧ St a0 a1 wb h s W ∧ (s.shut = true → s.right = true)
theorem HS.added_most (s : HS) (bs : List UInt8) : (s.added bs).most = s.most ∧ (s.added bs).want = s.want ∧ (s.added bs).shut = s.shut := by
  unfold HS.added
  split <;> exact ⟨rfl, rfl, rfl⟩
theorem str_append (a b : List UInt8) : str (a ++ b) = str a ++ str b := by
  apply ByteArray.ext
  simp [str]
theorem step_load_wanted {P : Program} {ops : Array Oper} {o : Oper} {a : Act} {w : World} {K : Act → World → Prop} {Q : Exit → Act → World → Prop} {E : Prop} (hw : Region.wanted o (yielded ops a.tmps) = true) (ty : TypeId) (x : Operand) (ho : o.op = .load ty x)
    (g : Nat) (hx : a.eval x = .pointer (some ⟨g, 0, none⟩)) (t : TypeId) (cs : Array Value) (fr : Nat × Nat) (d : TypeDesc) (hg : w.heap[g]? = some (.cells cs t fr))
    (hu : P.underlying ty = some d) (hd : (match d with | .struct _ | .array _ _ => true | _ => false) = true) (hi : (P.info? ty).map (·.size) = some cs.size)
    (h : K (a.put o.dst (.agg cs)) w) : if Region.wanted o (yielded ops a.tmps) = true then Oper.wp P o a w K Q else E := by
  rw [if_pos hw]
  exact wp_load_row ty x ho g hx t cs fr d hg hu hd hi h
set_option maxHeartbeats 40000000 in
theorem never_any {a0 a1 : Addr} (most : Int) (want : List UInt8) (hw : want.length = 32) (v : Value) (l : List OpV) (w : World) (he : Errs w.heap.size a0 a1 w) (hv : Ops w v l) (hd : ∀ j, j < l.length → (l.getD j op0).bs.length ≤ 140737488355328) (hn : l.length ≤ 1000000000000000) :
    Calls Tryd.prog 6 #[.int .i64 most, .agg (BC want).toArray, v] w fun e w' => e = .returned (.bool true) ∧ Only Nil w w' := by
  have HE := Lib.hid he
  have HV := Lib.hid hv
  have hz : (BC want).toArray.size = 32 := by rw [List.size_toArray, BC_length, hw]
  obtain ⟨n, hn0⟩ : ∃ b, w.heap.size = b := ⟨_, rfl⟩
  have HL := Lib.hid (live_any (a0 := a0) (a1 := a1) (w.alloc (.cells (BC want).toArray 23)) ((HE.out.only ((Only.refl Nil w).alloc _) fun _ e => e.elim).up (by simp)))
  have HB0 := Lib.hid (show Blk (w.alloc (.cells (BC want).toArray 23)) n 23 (BC want) from hn0 ▸ Blk.new w _ _)
  have HBy := Lib.hid (beyond_any v l (w.alloc (.cells (BC want).toArray 23)) (hv.only ((Only.refl _ _).alloc _)) hd hn)
  have HA0 := Lib.hid ((Only.refl Nil w).alloc (.cells (BC want).toArray 23))
  clear he hv
  obtain ⟨bb, hbb⟩ : ∃ b, beyE l = b := ⟨_, rfl⟩
  rw [hbb] at HBy
  by_cases hbt : bb = true
  · subst hbt
    go_enter Tryd.func6, Tryd.ntmps6
    go_wp2_with (go_at_call 12; refine HBy.out.mono ?_; rintro e w' ⟨rfl, rfl⟩)
    go_ret
    exact ⟨rfl, HA0.out⟩
  obtain rfl : bb = false := by simpa using hbt
  obtain ⟨hbn, hcost⟩ := beyE_false hbb
  clear hbt hbb
  by_cases hm : 0 ≤ most ∧ most ≤ 16777216
  · have d1 : decide (most < 0) = false := by simp; omega
    have d2 : decide (16777216 < most) = false := by simp; omega
    go_enter Tryd.func6, Tryd.ntmps6
    go_upto_region 5 with (first
      | (go_at_call 12; refine HBy.out.mono ?_; rintro e w' ⟨rfl, rfl⟩)
      | (go_at_call 7; refine HL.out.mono ?_; rintro e wb ⟨rfl, ho1⟩))
    have HB := Lib.hid (ho1.blk HB0.out id)
    have HO := Lib.hid (HA0.out.then ho1)
    clear HL ho1 HB0 HBy HA0
    have HEb := Lib.hid ((HE.out.only HO.out (fun _ e => e.elim)).up HO.out.size)
    have HVb := Lib.hid (HV.out.only HO.out)
    go_upto_region 6 with (first
      | ((with_reducible show wpList _ _ _ (Oper.mk _ (.load 23 _) _ _ _ _ :: _) _ _); refine wpList_load_row rfl 23 (.tmp 4) rfl n rfl 23 (BC want).toArray (0, 0) _ HB.out Tryd.underlying23 rfl (by rw [hz]; kernel_rfl) ?_)
      | (go_at_call 8; refine (St.new_some (w := wb) (a0 := a0) (a1 := a1) HEb.out (Only.refl _ _) most want hw hm.1 hm.2).mono ?_; rintro e w2 ⟨h, rfl, hs2⟩))
    have H2 := Lib.hid hs2
    clear hs2 HE HV
    obtain ⟨A, c, rfl, _⟩ := id HVb.out
    go_wp2
    go_loopw [10, 11, 12] (fun im se i wr => ∃ k : Nat, k ≤ l.length ∧ i = .int .i64 k ∧ Nev a0 a1 wb h most want im se wr) (fun _ _ i _ => l.length - (intOf i).toNat)
    case atStart => exact ⟨0, Nat.zero_le _, rfl, ⟨[], most, want, false⟩, rfl, rfl, rfl, rfl, H2.out, fun e => by cases e⟩
    case round =>
      obtain ⟨k, hk, rfl, s, hs1, hs2, rfl, rfl, hst, hsr⟩ := hrel
      by_cases hlt : k < l.length
      · obtain ⟨g, o, rfl, c0, c1, hrb⟩ := HVb.out.at' k hlt
        have hdl := hd k hlt
        have hrl := hrb.lt
        generalize l.getD k op0 = x at *
        obtain ⟨kind, xa, xc, bs⟩ := x
        have hdl : bs.length ≤ 140737488355328 := hdl
        have HRL := Lib.hid (show 0 < bs.length → ∀ k, blkOf (.slice xa bs.length xc) = some k → k < wb.heap.size from hrl)
        have e0 : wr.cell? ⟨g, o + k * 2, none⟩ = some (.int .i64 kind) := hst.only.cell c0 id
        have e1 : wr.cell? ⟨g, o + k * 2 + 1, none⟩ = some (.slice xa bs.length xc) := hst.only.cell c1 id
        have HSt := Lib.hid hst
        have HRB := Lib.hid (show RB wb (.slice xa bs.length xc) bs from hrb)
        clear hst hrb hrl c0 c1
        have g1 : (k : Int) < (l.length : Int) := by omega
        obtain ⟨b, hb⟩ : ∃ b, wr.heap.size = b := ⟨_, rfl⟩
        have HX := Lib.hid (show Blk (wr.alloc (.cells #[.int .i64 kind, .slice xa bs.length xc] 42)) b 42 [.int .i64 kind, .slice xa bs.length xc] from hb ▸ Blk.new wr _ _)
        go_upto_region 14 with fail
        (try rw [hb])
        refine wp_gen (fun W => Only Nil wr W ∧ Blk W b 42 [.int .i64 kind, .slice xa bs.length xc]) ⟨(Only.refl _ _).alloc _, HX.out⟩ ?_
        intro W1 ⟨hO1, hX1⟩
        have hS1 := HSt.out.more hO1
        have HO1 := Lib.hid hO1
        have HX1 := Lib.hid hX1
        have HBW := Lib.hid (show wr.heap.size ≤ b by omega)
        have HS1 := Lib.hid hS1
        have x0 : W1.cell? ⟨b, 0, none⟩ = some (.int .i64 kind) := hX1.cell 0
        have x1 : W1.cell? ⟨b, 1, none⟩ = some (.slice xa bs.length xc) := hX1.cell 1
        clear e0 e1 hS1 hX1 HX hb hO1
        go_upto_block 2 with fail
        go_cut [10, 11] (fun im se W => ∃ s', s'.most = most ∧ s'.want = want ∧ im = .string (str s'.img) ∧ se = .bool s'.shut ∧ St a0 a1 wb h s' W ∧ (s'.shut = true → s'.right = true))
        case first => as_aux_lemma =>
-- [[
          have hok := HS1.out.room
          by_cases k1 : kind = 1
          · subst k1
            have hov : IntKind.i64.wrap (most - (s.img.length : Int)) = most - s.img.length := IntWalk.i64_in _ (by have := hok.room; have := hok.most; omega)
            have hsz := str_size s.img
            have hcall := HSt.out.addF HO1.out (.slice xa bs.length xc) bs (HRB.out.only HS1.out.only fun _ _ => id) (fun h0 k hk => .inr (HRL.out h0 k hk))
            have hmost := (s.added_most bs)
            by_cases h0 : s.shut = true
            · have n1 : s.add bs = 190 := by unfold HS.add; rw [if_pos h0]
              have n2 : s.added bs = s := by unfold HS.added; rw [n1]; rfl
              rw [n1, n2] at hcall
              have HC := Lib.hid hcall
              rw [h0]
              clear hcall n1 n2 hmost
              go_wp2_with (go_at_call 17; refine HC.out.mono ?_; rintro e w3 ⟨rfl, hs3, ho3⟩; have y1 : w3.cell? ⟨b, 1, none⟩ = some (.slice xa bs.length xc) := (ho3.blk HX1.out (fun e => Nat.not_lt.2 HBW.out e.2)).cell 1; have HS3 := Lib.hid hs3; clear hs3 ho3)
              go_meet
              exact ⟨s, hs1, hs2, rfl, by rw [h0], HS3.out, hsr⟩
            · have h1 : s.shut = false := by simpa using h0
              by_cases hfit : most - (s.img.length : Int) < bs.length
              · have n1 : s.add bs = 3 := by unfold HS.add; rw [if_neg h0, if_pos (by rw [hs1]; exact hfit)]
                have n2 : s.added bs = s := by unfold HS.added; rw [n1]; rfl
                rw [n1, n2] at hcall
                have HC := Lib.hid hcall
                have d6 : decide ((bs.length : Int) ≤ most - (s.img.length : Int)) = false := by simp; omega
                rw [h1]
                clear hcall n1 n2 hmost
                go_wp2_with (go_at_call 17; refine HC.out.mono ?_; rintro e w3 ⟨rfl, hs3, ho3⟩; have y1 : w3.cell? ⟨b, 1, none⟩ = some (.slice xa bs.length xc) := (ho3.blk HX1.out (fun e => Nat.not_lt.2 HBW.out e.2)).cell 1; have HS3 := Lib.hid hs3; clear hs3 ho3)
                go_meet
                exact ⟨s, hs1, hs2, rfl, by rw [h1], HS3.out, hsr⟩
              · have n1 : s.add bs = 0 := by unfold HS.add; rw [if_neg h0, if_neg (by rw [hs1]; exact hfit)]
                have n2 : s.added bs = { s with img := s.img ++ bs } := by unfold HS.added; rw [n1]; rfl
                rw [n1, n2] at hcall
                have HC := Lib.hid hcall
                have d6 : decide ((bs.length : Int) ≤ most - (s.img.length : Int)) = true := by simp; omega
                have hsb := str_size bs
                have hmx : ¬ maxLen < s.img.length + bs.length := by have : maxLen = 9223372036854775807 := rfl; have := hok.room; omega
                rw [h1]
                clear hcall n1 n2 hmost
                go_wp2_with (go_at_call 17; refine HC.out.mono ?_; rintro e w3 ⟨rfl, hs3, ho3⟩; have y1 : w3.cell? ⟨b, 1, none⟩ = some (.slice xa bs.length xc) := (ho3.blk HX1.out (fun e => Nat.not_lt.2 HBW.out e.2)).cell 1; have HS3 := Lib.hid hs3; have hstr : (convert 26 9 (.slice xa bs.length xc)).run Tryd.prog w3 = .ok (.string (str bs)) w3 := str_of (P := Tryd.prog) (src := 26) (e := 5) (dst := 9) Tryd.underlying26 Tryd.underlying5 Tryd.underlying9 (bs := bs) (HRB.out.only hs3.only fun _ _ => id); clear hs3 ho3)
                all_goals go_meet
                all_goals exact ⟨{ s with img := s.img ++ bs }, hs1, hs2, by rw [str_append], by rw [h1], HS3.out, fun e => absurd e h0⟩
          · by_cases k2 : kind = 2
            · subst k2
              have HC := Lib.hid (HS1.out.reset)
              by_cases h0 : s.shut = true
              · have n1 : s.open' = 190 := by unfold HS.open'; rw [if_pos h0]
                have n2 : s.cleared = s := by unfold HS.cleared; rw [if_pos h0]
                rw [n1, n2] at HC
                rw [h0]
                clear n1 n2
                go_wp2_with (go_at_call 18; refine HC.out.mono ?_; rintro e w3 ⟨rfl, hs3⟩; have HS3 := Lib.hid hs3; clear hs3)
                go_meet
                exact ⟨s, hs1, hs2, rfl, by rw [h0], HS3.out, hsr⟩
              · have h1 : s.shut = false := by simpa using h0
                have n1 : s.open' = 0 := by unfold HS.open'; rw [if_neg h0]
                have n2 : s.cleared = { s with img := [] } := by unfold HS.cleared; rw [if_neg h0]
                rw [n1, n2] at HC
                rw [h1]
                clear n1 n2
                go_wp2_with (go_at_call 18; refine HC.out.mono ?_; rintro e w3 ⟨rfl, hs3⟩; have HS3 := Lib.hid hs3; clear hs3)
                go_meet
                exact ⟨{ s with img := [] }, hs1, hs2, rfl, by rw [h1], HS3.out, fun e => absurd e h0⟩
            · by_cases k3 : kind = 3
              · subst k3
                have HC := Lib.hid (HS1.out.sealTo)
                go_upto_region 30 with (go_at_call 19; refine HC.out.mono ?_; rintro e w3 ⟨rfl, hs3⟩; have HS3 := Lib.hid hs3; clear hs3)
                obtain ⟨c5, w5, hc5, hb5, ho5, hz5⟩ := conv_bytes s.img w3.drew
                clear hz5
                obtain ⟨n4, hn4⟩ : ∃ b, w3.drew.heap.size = b := ⟨_, rfl⟩
                rw [hn4] at hc5 hb5
                obtain ⟨n5, hn5⟩ : ∃ b, w5.heap.size = b := ⟨_, rfl⟩
                have HP5 := Lib.hid (show Parts (w5.alloc (.cells #[.slice (some ⟨n4, 0, none⟩) s.img.length c5] 26)) (.slice (some ⟨n5, 0, none⟩) 1 1) [.slice (some ⟨n4, 0, none⟩) s.img.length c5] [s.img] from hn5 ▸ parts_one (hb5.alloc (.cells #[.slice (some ⟨n4, 0, none⟩) s.img.length c5] 26)) (heap_alloc_new w5 _))
                have HO5 := Lib.hid (show Only Nil w3 w5 from ⟨ho5.os, ho5.tape, ho5.output, ho5.size, ho5.block⟩)
                have hbig : [s.img].flatten.length ≤ 900000000000000000 := by have := hok.room; have := hok.most; simp; omega
                have zE : ∀ W, (Op.equalIn 10000 23 (.agg (BC (sha s.img)).toArray) (.agg (BC want).toArray)).run Tryd.prog W = .ok s.right W := fun W => by rw [equal32 W _ _ (sha_length _) hw]; unfold HS.right; rw [hs2]
                clear hb5 ho5 hn4
                refine wp_region_any (by kernel_rfl) ?_
                change wpAny _ _ _ _ _ _ _ (World.drew _)
                refine wpAny_take (i := 0) (v := ?_) rfl (by kernel_rfl) (by kernel_rfl) (by kernel_rfl) (fun _ _ _ h => h) (Or.inl ⟨by rfl, by intro w; go_simp; try (with_reducible rfl)⟩) ?_
                refine wpAny_ready (rs := [1, 4]) (by kernel_rfl) (by simp) ?_
                refine AllReady.cons rfl (fun K hK => ?_) (AllReady.cons rfl (fun K hK => ?_) (AllReady.nil))
                · go_simp
                  refine hK _ _ ?_
                  clear hK K
                  refine wpAny_ready (rs := [2, 4]) (by kernel_rfl) (by simp) ?_
                  refine AllReady.cons rfl (fun K hK => ?_) (AllReady.cons rfl (fun K hK => ?_) (AllReady.nil))
                  · go_simp
                    refine hK _ _ ?_
                    clear hK K
                    refine wpAny_ready (rs := [3, 4]) (by kernel_rfl) (by simp) ?_
                    refine AllReady.cons rfl (fun K hK => ?_) (AllReady.cons rfl (fun K hK => ?_) (AllReady.nil))
                    · go_simp
                      go_at_call 20
                      refine (rsum_any _ _ [s.img] _ HP5.out hbig (by simp)).mono ?_
                      rintro r w6 ⟨rfl, ho6⟩
                      try go_simp
                      try (refine hK _ _ ?_; clear hK K)
                      refine wpAny_ready (rs := [4]) (by kernel_rfl) (by simp) ?_
                      refine AllReady.cons rfl (fun K hK => ?_) AllReady.nil
                      refine step_load_row rfl 23 (.tmp 4) rfl n rfl 23 (BC want).toArray (0, 0) _ (((HO5.out.alloc _).then ho6).blk (HS3.out.only.blk HB.out id) id) Tryd.underlying23 rfl (by rw [hz]; kernel_rfl) ?_
                      refine hK _ _ ?_
                      clear hK K
                      refine wpAny_ready (rs := [5]) (by kernel_rfl) (by simp) ?_
                      refine AllReady.cons rfl (fun K hK => ?_) AllReady.nil
                      go_simp
                      refine hK _ _ ?_
                      clear hK K
                      refine wpAny_ready (rs := [6]) (by kernel_rfl) (by simp) ?_
                      refine AllReady.cons rfl (fun K hK => ?_) AllReady.nil
                      go_simp
                      refine hK _ _ ?_
                      clear hK K
                      refine wpAny_done (by kernel_rfl) ?_ _
                      have HE6 := Lib.hid (HS3.out.more ((HO5.out.alloc _).then ho6))
                      clear ho6 HS3 HO5 HP5 hc5
                      obtain ⟨sh, hsh⟩ : ∃ b, s.shut = b := ⟨_, rfl⟩
                      obtain ⟨ri, hri⟩ : ∃ b, s.right = b := ⟨_, rfl⟩
                      have hop : s.open' = if sh then 190 else 0 := by rw [← hsh]; rfl
                      have hse : s.sealed = if sh then s else { s with shut := ri } := by rw [← hsh, ← hri]; rfl
                      rw [hop, hsh, hri]
                      rw [hse] at HE6
                      clear hop hse zE
                      cases sh <;> cases ri
                      all_goals go_wp2
                      all_goals go_meet
                      · exact ⟨{ s with shut := false }, hs1, hs2, rfl, rfl, HE6.out, fun e => by cases e⟩
                      · exact ⟨{ s with shut := true }, hs1, hs2, rfl, rfl, HE6.out, fun _ => hri⟩
                      · exact ⟨s, hs1, hs2, rfl, by rw [hsh], HE6.out, hsr⟩
                      · exact ⟨s, hs1, hs2, rfl, by rw [hsh], HE6.out, hsr⟩
                    · refine step_load_row rfl 23 (.tmp 4) rfl n rfl 23 (BC want).toArray (0, 0) _ ((HO5.out.alloc _).blk (HS3.out.only.blk HB.out id) id) Tryd.underlying23 rfl (by rw [hz]; kernel_rfl) ?_
                      refine hK _ _ ?_
                      clear hK K
                      refine wpAny_ready (rs := [3]) (by kernel_rfl) (by simp) ?_
                      refine AllReady.cons rfl (fun K hK => ?_) AllReady.nil
                      go_simp
                      go_at_call 20
                      refine (rsum_any _ _ [s.img] _ HP5.out hbig (by simp)).mono ?_
                      rintro r w6 ⟨rfl, ho6⟩
                      try go_simp
                      try (refine hK _ _ ?_; clear hK K)
                      refine wpAny_ready (rs := [5]) (by kernel_rfl) (by simp) ?_
                      refine AllReady.cons rfl (fun K hK => ?_) AllReady.nil
                      go_simp
                      refine hK _ _ ?_
                      clear hK K
                      refine wpAny_ready (rs := [6]) (by kernel_rfl) (by simp) ?_
                      refine AllReady.cons rfl (fun K hK => ?_) AllReady.nil
                      go_simp
                      refine hK _ _ ?_
                      clear hK K
                      refine wpAny_done (by kernel_rfl) ?_ _
                      have HE6 := Lib.hid (HS3.out.more ((HO5.out.alloc _).then ho6))
                      clear ho6 HS3 HO5 HP5 hc5
                      obtain ⟨sh, hsh⟩ : ∃ b, s.shut = b := ⟨_, rfl⟩
                      obtain ⟨ri, hri⟩ : ∃ b, s.right = b := ⟨_, rfl⟩
                      have hop : s.open' = if sh then 190 else 0 := by rw [← hsh]; rfl
                      have hse : s.sealed = if sh then s else { s with shut := ri } := by rw [← hsh, ← hri]; rfl
                      rw [hop, hsh, hri]
                      rw [hse] at HE6
                      clear hop hse zE
                      cases sh <;> cases ri
                      all_goals go_wp2
                      all_goals go_meet
                      · exact ⟨{ s with shut := false }, hs1, hs2, rfl, rfl, HE6.out, fun e => by cases e⟩
                      · exact ⟨{ s with shut := true }, hs1, hs2, rfl, rfl, HE6.out, fun _ => hri⟩
                      · exact ⟨s, hs1, hs2, rfl, by rw [hsh], HE6.out, hsr⟩
                      · exact ⟨s, hs1, hs2, rfl, by rw [hsh], HE6.out, hsr⟩
                  · refine step_load_row rfl 23 (.tmp 4) rfl n rfl 23 (BC want).toArray (0, 0) _ (HO5.out.blk (HS3.out.only.blk HB.out id) id) Tryd.underlying23 rfl (by rw [hz]; kernel_rfl) ?_
                    refine hK _ _ ?_
                    clear hK K
                    refine wpAny_ready (rs := [2]) (by kernel_rfl) (by simp) ?_
                    refine AllReady.cons rfl (fun K hK => ?_) AllReady.nil
                    go_simp
                    refine hK _ _ ?_
                    clear hK K
                    refine wpAny_ready (rs := [3]) (by kernel_rfl) (by simp) ?_
                    refine AllReady.cons rfl (fun K hK => ?_) AllReady.nil
                    go_simp
                    go_at_call 20
                    refine (rsum_any _ _ [s.img] _ HP5.out hbig (by simp)).mono ?_
                    rintro r w6 ⟨rfl, ho6⟩
                    try go_simp
                    try (refine hK _ _ ?_; clear hK K)
                    refine wpAny_ready (rs := [5]) (by kernel_rfl) (by simp) ?_
                    refine AllReady.cons rfl (fun K hK => ?_) AllReady.nil
                    go_simp
                    refine hK _ _ ?_
                    clear hK K
                    refine wpAny_ready (rs := [6]) (by kernel_rfl) (by simp) ?_
                    refine AllReady.cons rfl (fun K hK => ?_) AllReady.nil
                    go_simp
                    refine hK _ _ ?_
                    clear hK K
                    refine wpAny_done (by kernel_rfl) ?_ _
                    have HE6 := Lib.hid (HS3.out.more ((HO5.out.alloc _).then ho6))
                    clear ho6 HS3 HO5 HP5 hc5
                    obtain ⟨sh, hsh⟩ : ∃ b, s.shut = b := ⟨_, rfl⟩
                    obtain ⟨ri, hri⟩ : ∃ b, s.right = b := ⟨_, rfl⟩
                    have hop : s.open' = if sh then 190 else 0 := by rw [← hsh]; rfl
                    have hse : s.sealed = if sh then s else { s with shut := ri } := by rw [← hsh, ← hri]; rfl
                    rw [hop, hsh, hri]
                    rw [hse] at HE6
                    clear hop hse zE
                    cases sh <;> cases ri
                    all_goals go_wp2
                    all_goals go_meet
                    · exact ⟨{ s with shut := false }, hs1, hs2, rfl, rfl, HE6.out, fun e => by cases e⟩
                    · exact ⟨{ s with shut := true }, hs1, hs2, rfl, rfl, HE6.out, fun _ => hri⟩
                    · exact ⟨s, hs1, hs2, rfl, by rw [hsh], HE6.out, hsr⟩
                    · exact ⟨s, hs1, hs2, rfl, by rw [hsh], HE6.out, hsr⟩
                · refine step_load_row rfl 23 (.tmp 4) rfl n rfl 23 (BC want).toArray (0, 0) _ ((Only.refl Nil w3).blk (HS3.out.only.blk HB.out id) id) Tryd.underlying23 rfl (by rw [hz]; kernel_rfl) ?_
                  refine hK _ _ ?_
                  clear hK K
                  refine wpAny_ready (rs := [1]) (by kernel_rfl) (by simp) ?_
                  refine AllReady.cons rfl (fun K hK => ?_) AllReady.nil
                  go_simp
                  refine hK _ _ ?_
                  clear hK K
                  refine wpAny_ready (rs := [2]) (by kernel_rfl) (by simp) ?_
                  refine AllReady.cons rfl (fun K hK => ?_) AllReady.nil
                  go_simp
                  refine hK _ _ ?_
                  clear hK K
                  refine wpAny_ready (rs := [3]) (by kernel_rfl) (by simp) ?_
                  refine AllReady.cons rfl (fun K hK => ?_) AllReady.nil
                  go_simp
                  go_at_call 20
                  refine (rsum_any _ _ [s.img] _ HP5.out hbig (by simp)).mono ?_
                  rintro r w6 ⟨rfl, ho6⟩
                  try go_simp
                  try (refine hK _ _ ?_; clear hK K)
                  refine wpAny_ready (rs := [5]) (by kernel_rfl) (by simp) ?_
                  refine AllReady.cons rfl (fun K hK => ?_) AllReady.nil
                  go_simp
                  refine hK _ _ ?_
                  clear hK K
                  refine wpAny_ready (rs := [6]) (by kernel_rfl) (by simp) ?_
                  refine AllReady.cons rfl (fun K hK => ?_) AllReady.nil
                  go_simp
                  refine hK _ _ ?_
                  clear hK K
                  refine wpAny_done (by kernel_rfl) ?_ _
                  have HE6 := Lib.hid (HS3.out.more ((HO5.out.alloc _).then ho6))
                  clear ho6 HS3 HO5 HP5 hc5
                  obtain ⟨sh, hsh⟩ : ∃ b, s.shut = b := ⟨_, rfl⟩
                  obtain ⟨ri, hri⟩ : ∃ b, s.right = b := ⟨_, rfl⟩
                  have hop : s.open' = if sh then 190 else 0 := by rw [← hsh]; rfl
                  have hse : s.sealed = if sh then s else { s with shut := ri } := by rw [← hsh, ← hri]; rfl
                  rw [hop, hsh, hri]
                  rw [hse] at HE6
                  clear hop hse zE
                  cases sh <;> cases ri
                  all_goals go_wp2
                  all_goals go_meet
                  · exact ⟨{ s with shut := false }, hs1, hs2, rfl, rfl, HE6.out, fun e => by cases e⟩
                  · exact ⟨{ s with shut := true }, hs1, hs2, rfl, rfl, HE6.out, fun _ => hri⟩
                  · exact ⟨s, hs1, hs2, rfl, by rw [hsh], HE6.out, hsr⟩
                  · exact ⟨s, hs1, hs2, rfl, by rw [hsh], HE6.out, hsr⟩
              · go_wp2
                go_meet
                exact ⟨s, hs1, hs2, rfl, rfl, HS1.out, hsr⟩
-- ]]
        case rest =>
          obtain ⟨s', hs1', hs2', rfl, rfl, hst', hsr'⟩ := hcut
          have hok' := hst'.room
          have HS5 := Lib.hid hst'
          clear hst'
          have hrec := HS5.out.record
          by_cases h0 : s'.shut = true
          · have hri := hsr' h0
            rw [h0] at hrec
            simp only [if_true] at hrec
            have HC := Lib.hid hrec
            rw [h0]
            clear hrec
            go_upto_region 35 with (go_at_call 9; refine HC.out.mono ?_; rintro e w3 ⟨u, rfl, ho3, hs3⟩; have HS3 := Lib.hid hs3; have HU := Lib.hid ho3.reads; clear hs3 ho3)
            obtain ⟨Au, cu, rfl, _⟩ := HU.out.form
            have HO5 := Lib.hid (show Only Nil w3 w3.drew from (Only.refl Nil w3).drew)
            have HU5 := Lib.hid (HU.out.only HO5.out fun _ _ => id)
            have hstr : (convert 26 9 (.slice Au s'.img.length cu)).run Tryd.prog w3.drew = .ok (.string (str s'.img)) w3.drew := str_of (P := Tryd.prog) (src := 26) (e := 5) (dst := 9) Tryd.underlying26 Tryd.underlying5 Tryd.underlying9 (bs := s'.img) HU5.out
            obtain ⟨n5, hn5⟩ : ∃ b, w3.drew.heap.size = b := ⟨_, rfl⟩
            have HP5 := Lib.hid (show Parts (w3.drew.alloc (.cells #[.slice Au s'.img.length cu] 26)) (.slice (some ⟨n5, 0, none⟩) 1 1) [.slice Au s'.img.length cu] [s'.img] from hn5 ▸ parts_one (HU5.out.alloc (.cells #[.slice Au s'.img.length cu] 26)) (heap_alloc_new w3.drew _))
            have hbig : [s'.img].flatten.length ≤ 900000000000000000 := by have := hok'.room; have := hok'.most; simp; omega
            have zE : ∀ W, (Op.equalIn 10000 23 (.agg (BC (sha s'.img)).toArray) (.agg (BC want).toArray)).run Tryd.prog W = .ok true W := fun W => by rw [equal32 W _ _ (sha_length _) hw, show (sha s'.img == want) = true from by rw [← hs2']; exact hri]
            have d7 : decide (most < (s'.img.length : Int)) = false := by have := hok'.room; simp; omega
            have hsz := str_size s'.img
            clear HC HU hri
            refine wp_region_any (by kernel_rfl) ?_
            change wpAny _ _ _ _ _ _ _ (World.drew _)
            refine wpAny_take (i := 0) (v := ?_) rfl (by kernel_rfl) (by kernel_rfl) (by kernel_rfl) (fun _ _ _ h => h) (Or.inl ⟨by kernel_rfl, by intro w; go_simp; try (with_reducible rfl)⟩) ?_
            refine wpAny_take (i := 1) (v := ?_) rfl (by kernel_rfl) (by kernel_rfl) (by kernel_rfl) (fun _ _ _ h => h) (Or.inl ⟨by kernel_rfl, by intro w; go_simp; try (with_reducible rfl)⟩) ?_
            refine wpAny_take (i := 2) (v := ?_) rfl (by kernel_rfl) (by kernel_rfl) (by kernel_rfl) (fun _ _ _ h => h) (Or.inl ⟨by kernel_rfl, by intro w; go_simp; try (with_reducible rfl)⟩) ?_
            refine wpAny_take (i := 3) (v := ?_) rfl (by kernel_rfl) (by kernel_rfl) (by kernel_rfl) (fun _ _ _ h => h) (Or.inl ⟨by kernel_rfl, by intro w; go_simp; try (with_reducible rfl)⟩) ?_
            refine wpAny_take (i := 4) (v := ?_) rfl (by kernel_rfl) (by kernel_rfl) (by kernel_rfl) (fun _ _ _ h => h) (Or.inl ⟨by kernel_rfl, by intro w; go_simp; try (with_reducible rfl)⟩) ?_
            refine wpAny_take (i := 5) (v := ?_) rfl (by kernel_rfl) (by kernel_rfl) (by kernel_rfl) (fun _ _ _ h => h) (Or.inl ⟨by kernel_rfl, by intro w; go_simp; try (with_reducible rfl)⟩) ?_
            refine wpAny_take (i := 6) (v := ?_) rfl (by kernel_rfl) (by kernel_rfl) (by kernel_rfl) (fun _ _ _ h => h) (Or.inl ⟨by kernel_rfl, by intro w; go_simp; try (with_reducible rfl)⟩) ?_
            refine wpAny_take (i := 8) (v := ?_) rfl (by kernel_rfl) (by kernel_rfl) (by kernel_rfl) (fun _ _ _ h => h) (Or.inl ⟨by kernel_rfl, by intro w; go_simp; try (with_reducible rfl)⟩) ?_
            refine wpAny_ready (rs := [7]) (by kernel_rfl) (by simp) ?_
            refine AllReady.cons rfl (fun K hK => ?_) (AllReady.nil)
            go_simp
            refine hK _ _ ?_
            clear hK K
            refine wpAny_take (i := 9) (v := ?_) rfl (by kernel_rfl) (by kernel_rfl) (by kernel_rfl) (fun _ _ _ h => h) (Or.inl ⟨by kernel_rfl, by intro w; go_simp; try (with_reducible rfl)⟩) ?_
            refine wpAny_take (i := 10) (v := ?_) rfl (by kernel_rfl) (by kernel_rfl) (by kernel_rfl) (fun _ _ _ h => h) (Or.inl ⟨by kernel_rfl, by intro w; go_simp; try (with_reducible rfl)⟩) ?_
            refine wpAny_take (i := 11) (v := ?_) rfl (by kernel_rfl) (by kernel_rfl) (by kernel_rfl) (fun _ _ _ h => h) (Or.inl ⟨by kernel_rfl, by intro w; go_simp; try (with_reducible rfl)⟩) ?_
            refine wpAny_ready (rs := [12, 14]) (by kernel_rfl) (by simp) ?_
            refine AllReady.cons rfl (fun K hK => ?_) (AllReady.cons rfl (fun K hK => ?_) (AllReady.nil))
            · go_simp
              refine hK _ _ ?_
              clear hK K
              refine wpAny_ready (rs := [13, 14]) (by kernel_rfl) (by simp) ?_
              refine AllReady.cons rfl (fun K hK => ?_) (AllReady.cons rfl (fun K hK => ?_) (AllReady.nil))
              · go_simp
                go_at_call 20
                refine (rsum_any _ _ [s'.img] _ HP5.out hbig (by simp)).mono ?_
                rintro r w6 ⟨rfl, ho6⟩
                try go_simp
                try (refine hK _ _ ?_; clear hK K)
                refine wpAny_ready (rs := [14]) (by kernel_rfl) (by simp) ?_
                refine AllReady.cons rfl (fun K hK => ?_) (AllReady.nil)
                refine step_load_wanted (by kernel_rfl) 23 (.tmp 4) rfl n rfl 23 (BC want).toArray (0, 0) _ (((HO5.out.alloc _).then ho6).blk (HS3.out.only.blk HB.out id) id) Tryd.underlying23 rfl (by rw [hz]; kernel_rfl) ?_
                refine hK _ _ ?_
                clear hK K
                have HS6 := Lib.hid (HS3.out.more ((HO5.out.alloc _).then ho6))
                clear ho6 HS3 HO5 HP5
                refine wpAny_ready (rs := [15]) (by kernel_rfl) (by simp) ?_
                refine AllReady.cons rfl (fun K hK => ?_) (AllReady.nil)
                go_simp
                refine hK _ _ ?_
                clear hK K
                refine wpAny_take (i := 16) (v := ?_) rfl (by kernel_rfl) (by kernel_rfl) (by kernel_rfl) (fun _ _ _ h => h) (Or.inl ⟨by kernel_rfl, by intro w; go_simp; try (with_reducible rfl)⟩) ?_
                refine wpAny_take (i := 17) (v := ?_) rfl (by kernel_rfl) (by kernel_rfl) (by kernel_rfl) (fun _ _ _ h => h) (Or.inl ⟨by kernel_rfl, by intro w; go_simp; try (with_reducible rfl)⟩) ?_
                refine wpAny_take (i := 18) (v := ?_) rfl (by kernel_rfl) (by kernel_rfl) (by kernel_rfl) (fun _ _ _ h => h) (Or.inl ⟨by kernel_rfl, by intro w; go_simp; try (with_reducible rfl)⟩) ?_
                refine wpAny_take (i := 19) (v := ?_) rfl (by kernel_rfl) (by kernel_rfl) (by kernel_rfl) (fun _ _ _ h => h) (Or.inl ⟨by kernel_rfl, by intro w; go_simp; try (with_reducible rfl)⟩) ?_
                refine wpAny_take (i := 20) (v := ?_) rfl (by kernel_rfl) (by kernel_rfl) (by kernel_rfl) (fun _ _ _ h => h) (Or.inl ⟨by kernel_rfl, by intro w; go_simp; try (with_reducible rfl)⟩) ?_
                refine wpAny_take (i := 21) (v := ?_) rfl (by kernel_rfl) (by kernel_rfl) (by kernel_rfl) (fun _ _ _ h => h) (Or.inl ⟨by kernel_rfl, by intro w; go_simp; try (with_reducible rfl)⟩) ?_
                refine wpAny_take (i := 22) (v := ?_) rfl (by kernel_rfl) (by kernel_rfl) (by kernel_rfl) (fun _ _ _ h => h) (Or.inl ⟨by kernel_rfl, by intro w; go_simp; try (with_reducible rfl)⟩) ?_
                refine wpAny_take (i := 23) (v := ?_) rfl (by kernel_rfl) (by kernel_rfl) (by kernel_rfl) (fun _ _ _ h => h) (Or.inl ⟨by kernel_rfl, by intro w; go_simp; try (with_reducible rfl)⟩) ?_
                refine wpAny_take (i := 24) (v := ?_) rfl (by kernel_rfl) (by kernel_rfl) (by kernel_rfl) (fun _ _ _ h => h) (Or.inl ⟨by kernel_rfl, by intro w; go_simp; try (with_reducible rfl)⟩) ?_
                refine wpAny_take (i := 25) (v := ?_) rfl (by kernel_rfl) (by kernel_rfl) (by kernel_rfl) (fun _ _ _ h => h) (Or.inl ⟨by kernel_rfl, by intro w; go_simp; try (with_reducible rfl)⟩) ?_
                refine wpAny_take (i := 26) (v := ?_) rfl (by kernel_rfl) (by kernel_rfl) (by kernel_rfl) (fun _ _ _ h => h) (Or.inl ⟨by kernel_rfl, by intro w; go_simp; try (with_reducible rfl)⟩) ?_
                refine wpAny_take (i := 27) (v := ?_) rfl (by kernel_rfl) (by kernel_rfl) (by kernel_rfl) (fun _ _ _ h => h) (Or.inl ⟨by kernel_rfl, by intro w; go_simp; try (with_reducible rfl)⟩) ?_
                refine wpAny_take (i := 28) (v := ?_) rfl (by kernel_rfl) (by kernel_rfl) (by kernel_rfl) (fun _ _ _ h => h) (Or.inl ⟨by kernel_rfl, by intro w; go_simp; try (with_reducible rfl)⟩) ?_
                refine wpAny_take (i := 29) (v := undef) rfl (by kernel_rfl) (by kernel_rfl) (by kernel_rfl) (fun _ _ _ h => h) (Or.inr ⟨by kernel_rfl, rfl⟩) ?_
                refine wpAny_take (i := 30) (v := undef) rfl (by kernel_rfl) (by kernel_rfl) (by kernel_rfl) (fun _ _ _ h => h) (Or.inr ⟨by kernel_rfl, rfl⟩) ?_
                refine wpAny_take (i := 31) (v := undef) rfl (by kernel_rfl) (by kernel_rfl) (by kernel_rfl) (fun _ _ _ h => h) (Or.inr ⟨by kernel_rfl, rfl⟩) ?_
                refine wpAny_take (i := 32) (v := ?_) rfl (by kernel_rfl) (by kernel_rfl) (by kernel_rfl) (fun _ _ _ h => h) (Or.inl ⟨by kernel_rfl, by intro w; go_simp; try (with_reducible rfl)⟩) ?_
                refine wpAny_take (i := 33) (v := ?_) rfl (by kernel_rfl) (by kernel_rfl) (by kernel_rfl) (fun _ _ _ h => h) (Or.inl ⟨by kernel_rfl, by intro w; go_simp; try (with_reducible rfl)⟩) ?_
                refine wpAny_take (i := 34) (v := ?_) rfl (by kernel_rfl) (by kernel_rfl) (by kernel_rfl) (fun _ _ _ h => h) (Or.inl ⟨by kernel_rfl, by intro w; go_simp; try (with_reducible rfl)⟩) ?_
                refine wpAny_take (i := 35) (v := ?_) rfl (by kernel_rfl) (by kernel_rfl) (by kernel_rfl) (fun _ _ _ h => h) (Or.inl ⟨by kernel_rfl, by intro w; go_simp; try (with_reducible rfl)⟩) ?_
                refine wpAny_take (i := 37) (v := ?_) rfl (by kernel_rfl) (by kernel_rfl) (by kernel_rfl) (fun _ _ _ h => h) (Or.inl ⟨by kernel_rfl, by intro w; go_simp; try (with_reducible rfl)⟩) ?_
                refine wpAny_take (i := 38) (v := ?_) rfl (by kernel_rfl) (by kernel_rfl) (by kernel_rfl) (fun _ _ _ h => h) (Or.inl ⟨by kernel_rfl, by intro w; go_simp; try (with_reducible rfl)⟩) ?_
                refine wpAny_ready (rs := [36]) (by kernel_rfl) (by simp) ?_
                refine AllReady.cons rfl (fun K hK => ?_) (AllReady.nil)
                go_simp
                go_at_call 11
                refine (HS6.out.len).mono ?_
                rintro r w7 ⟨rfl, rfl⟩
                try go_simp
                try (refine hK _ _ ?_; clear hK K)
                refine wpAny_take (i := 39) (v := ?_) rfl (by kernel_rfl) (by kernel_rfl) (by kernel_rfl) (fun _ _ _ h => h) (Or.inl ⟨by kernel_rfl, by intro w; go_simp; try (with_reducible rfl)⟩) ?_
                refine wpAny_take (i := 40) (v := ?_) rfl (by kernel_rfl) (by kernel_rfl) (by kernel_rfl) (fun _ _ _ h => h) (Or.inl ⟨by kernel_rfl, by intro w; go_simp; try (with_reducible rfl)⟩) ?_
                refine wpAny_done (by kernel_rfl) ?_ _
                go_wp2
                go_roundw
                case rel => exact ⟨k + 1, by omega, by go_num, s', hs1', hs2', rfl, by rw [h0], HS6.out, hsr'⟩
                case measure => simp [intOf]; omega
              · refine step_load_wanted (by kernel_rfl) 23 (.tmp 4) rfl n rfl 23 (BC want).toArray (0, 0) _ ((HO5.out.alloc _).blk (HS3.out.only.blk HB.out id) id) Tryd.underlying23 rfl (by rw [hz]; kernel_rfl) ?_
                refine hK _ _ ?_
                clear hK K
                refine wpAny_ready (rs := [13]) (by kernel_rfl) (by simp) ?_
                refine AllReady.cons rfl (fun K hK => ?_) (AllReady.nil)
                go_simp
                go_at_call 20
                refine (rsum_any _ _ [s'.img] _ HP5.out hbig (by simp)).mono ?_
                rintro r w6 ⟨rfl, ho6⟩
                try go_simp
                try (refine hK _ _ ?_; clear hK K)
                have HS6 := Lib.hid (HS3.out.more ((HO5.out.alloc _).then ho6))
                clear ho6 HS3 HO5 HP5
                refine wpAny_ready (rs := [15]) (by kernel_rfl) (by simp) ?_
                refine AllReady.cons rfl (fun K hK => ?_) (AllReady.nil)
                go_simp
                refine hK _ _ ?_
                clear hK K
                refine wpAny_take (i := 16) (v := ?_) rfl (by kernel_rfl) (by kernel_rfl) (by kernel_rfl) (fun _ _ _ h => h) (Or.inl ⟨by kernel_rfl, by intro w; go_simp; try (with_reducible rfl)⟩) ?_
                refine wpAny_take (i := 17) (v := ?_) rfl (by kernel_rfl) (by kernel_rfl) (by kernel_rfl) (fun _ _ _ h => h) (Or.inl ⟨by kernel_rfl, by intro w; go_simp; try (with_reducible rfl)⟩) ?_
                refine wpAny_take (i := 18) (v := ?_) rfl (by kernel_rfl) (by kernel_rfl) (by kernel_rfl) (fun _ _ _ h => h) (Or.inl ⟨by kernel_rfl, by intro w; go_simp; try (with_reducible rfl)⟩) ?_
                refine wpAny_take (i := 19) (v := ?_) rfl (by kernel_rfl) (by kernel_rfl) (by kernel_rfl) (fun _ _ _ h => h) (Or.inl ⟨by kernel_rfl, by intro w; go_simp; try (with_reducible rfl)⟩) ?_
                refine wpAny_take (i := 20) (v := ?_) rfl (by kernel_rfl) (by kernel_rfl) (by kernel_rfl) (fun _ _ _ h => h) (Or.inl ⟨by kernel_rfl, by intro w; go_simp; try (with_reducible rfl)⟩) ?_
                refine wpAny_take (i := 21) (v := ?_) rfl (by kernel_rfl) (by kernel_rfl) (by kernel_rfl) (fun _ _ _ h => h) (Or.inl ⟨by kernel_rfl, by intro w; go_simp; try (with_reducible rfl)⟩) ?_
                refine wpAny_take (i := 22) (v := ?_) rfl (by kernel_rfl) (by kernel_rfl) (by kernel_rfl) (fun _ _ _ h => h) (Or.inl ⟨by kernel_rfl, by intro w; go_simp; try (with_reducible rfl)⟩) ?_
                refine wpAny_take (i := 23) (v := ?_) rfl (by kernel_rfl) (by kernel_rfl) (by kernel_rfl) (fun _ _ _ h => h) (Or.inl ⟨by kernel_rfl, by intro w; go_simp; try (with_reducible rfl)⟩) ?_
                refine wpAny_take (i := 24) (v := ?_) rfl (by kernel_rfl) (by kernel_rfl) (by kernel_rfl) (fun _ _ _ h => h) (Or.inl ⟨by kernel_rfl, by intro w; go_simp; try (with_reducible rfl)⟩) ?_
                refine wpAny_take (i := 25) (v := ?_) rfl (by kernel_rfl) (by kernel_rfl) (by kernel_rfl) (fun _ _ _ h => h) (Or.inl ⟨by kernel_rfl, by intro w; go_simp; try (with_reducible rfl)⟩) ?_
                refine wpAny_take (i := 26) (v := ?_) rfl (by kernel_rfl) (by kernel_rfl) (by kernel_rfl) (fun _ _ _ h => h) (Or.inl ⟨by kernel_rfl, by intro w; go_simp; try (with_reducible rfl)⟩) ?_
                refine wpAny_take (i := 27) (v := ?_) rfl (by kernel_rfl) (by kernel_rfl) (by kernel_rfl) (fun _ _ _ h => h) (Or.inl ⟨by kernel_rfl, by intro w; go_simp; try (with_reducible rfl)⟩) ?_
                refine wpAny_take (i := 28) (v := ?_) rfl (by kernel_rfl) (by kernel_rfl) (by kernel_rfl) (fun _ _ _ h => h) (Or.inl ⟨by kernel_rfl, by intro w; go_simp; try (with_reducible rfl)⟩) ?_
                refine wpAny_take (i := 29) (v := undef) rfl (by kernel_rfl) (by kernel_rfl) (by kernel_rfl) (fun _ _ _ h => h) (Or.inr ⟨by kernel_rfl, rfl⟩) ?_
                refine wpAny_take (i := 30) (v := undef) rfl (by kernel_rfl) (by kernel_rfl) (by kernel_rfl) (fun _ _ _ h => h) (Or.inr ⟨by kernel_rfl, rfl⟩) ?_
                refine wpAny_take (i := 31) (v := undef) rfl (by kernel_rfl) (by kernel_rfl) (by kernel_rfl) (fun _ _ _ h => h) (Or.inr ⟨by kernel_rfl, rfl⟩) ?_
                refine wpAny_take (i := 32) (v := ?_) rfl (by kernel_rfl) (by kernel_rfl) (by kernel_rfl) (fun _ _ _ h => h) (Or.inl ⟨by kernel_rfl, by intro w; go_simp; try (with_reducible rfl)⟩) ?_
                refine wpAny_take (i := 33) (v := ?_) rfl (by kernel_rfl) (by kernel_rfl) (by kernel_rfl) (fun _ _ _ h => h) (Or.inl ⟨by kernel_rfl, by intro w; go_simp; try (with_reducible rfl)⟩) ?_
                refine wpAny_take (i := 34) (v := ?_) rfl (by kernel_rfl) (by kernel_rfl) (by kernel_rfl) (fun _ _ _ h => h) (Or.inl ⟨by kernel_rfl, by intro w; go_simp; try (with_reducible rfl)⟩) ?_
                refine wpAny_take (i := 35) (v := ?_) rfl (by kernel_rfl) (by kernel_rfl) (by kernel_rfl) (fun _ _ _ h => h) (Or.inl ⟨by kernel_rfl, by intro w; go_simp; try (with_reducible rfl)⟩) ?_
                refine wpAny_take (i := 37) (v := ?_) rfl (by kernel_rfl) (by kernel_rfl) (by kernel_rfl) (fun _ _ _ h => h) (Or.inl ⟨by kernel_rfl, by intro w; go_simp; try (with_reducible rfl)⟩) ?_
                refine wpAny_take (i := 38) (v := ?_) rfl (by kernel_rfl) (by kernel_rfl) (by kernel_rfl) (fun _ _ _ h => h) (Or.inl ⟨by kernel_rfl, by intro w; go_simp; try (with_reducible rfl)⟩) ?_
                refine wpAny_ready (rs := [36]) (by kernel_rfl) (by simp) ?_
                refine AllReady.cons rfl (fun K hK => ?_) (AllReady.nil)
                go_simp
                go_at_call 11
                refine (HS6.out.len).mono ?_
                rintro r w7 ⟨rfl, rfl⟩
                try go_simp
                try (refine hK _ _ ?_; clear hK K)
                refine wpAny_take (i := 39) (v := ?_) rfl (by kernel_rfl) (by kernel_rfl) (by kernel_rfl) (fun _ _ _ h => h) (Or.inl ⟨by kernel_rfl, by intro w; go_simp; try (with_reducible rfl)⟩) ?_
                refine wpAny_take (i := 40) (v := ?_) rfl (by kernel_rfl) (by kernel_rfl) (by kernel_rfl) (fun _ _ _ h => h) (Or.inl ⟨by kernel_rfl, by intro w; go_simp; try (with_reducible rfl)⟩) ?_
                refine wpAny_done (by kernel_rfl) ?_ _
                go_wp2
                go_roundw
                case rel => exact ⟨k + 1, by omega, by go_num, s', hs1', hs2', rfl, by rw [h0], HS6.out, hsr'⟩
                case measure => simp [intOf]; omega
            · refine step_load_wanted (by kernel_rfl) 23 (.tmp 4) rfl n rfl 23 (BC want).toArray (0, 0) _ ((HO5.out).blk (HS3.out.only.blk HB.out id) id) Tryd.underlying23 rfl (by rw [hz]; kernel_rfl) ?_
              refine hK _ _ ?_
              clear hK K
              refine wpAny_ready (rs := [12]) (by kernel_rfl) (by simp) ?_
              refine AllReady.cons rfl (fun K hK => ?_) (AllReady.nil)
              go_simp
              refine hK _ _ ?_
              clear hK K
              refine wpAny_ready (rs := [13]) (by kernel_rfl) (by simp) ?_
              refine AllReady.cons rfl (fun K hK => ?_) (AllReady.nil)
              go_simp
              go_at_call 20
              refine (rsum_any _ _ [s'.img] _ HP5.out hbig (by simp)).mono ?_
              rintro r w6 ⟨rfl, ho6⟩
              try go_simp
              try (refine hK _ _ ?_; clear hK K)
              have HS6 := Lib.hid (HS3.out.more ((HO5.out.alloc _).then ho6))
              clear ho6 HS3 HO5 HP5
              refine wpAny_ready (rs := [15]) (by kernel_rfl) (by simp) ?_
              refine AllReady.cons rfl (fun K hK => ?_) (AllReady.nil)
              go_simp
              refine hK _ _ ?_
              clear hK K
              refine wpAny_take (i := 16) (v := ?_) rfl (by kernel_rfl) (by kernel_rfl) (by kernel_rfl) (fun _ _ _ h => h) (Or.inl ⟨by kernel_rfl, by intro w; go_simp; try (with_reducible rfl)⟩) ?_
              refine wpAny_take (i := 17) (v := ?_) rfl (by kernel_rfl) (by kernel_rfl) (by kernel_rfl) (fun _ _ _ h => h) (Or.inl ⟨by kernel_rfl, by intro w; go_simp; try (with_reducible rfl)⟩) ?_
              refine wpAny_take (i := 18) (v := ?_) rfl (by kernel_rfl) (by kernel_rfl) (by kernel_rfl) (fun _ _ _ h => h) (Or.inl ⟨by kernel_rfl, by intro w; go_simp; try (with_reducible rfl)⟩) ?_
              refine wpAny_take (i := 19) (v := ?_) rfl (by kernel_rfl) (by kernel_rfl) (by kernel_rfl) (fun _ _ _ h => h) (Or.inl ⟨by kernel_rfl, by intro w; go_simp; try (with_reducible rfl)⟩) ?_
              refine wpAny_take (i := 20) (v := ?_) rfl (by kernel_rfl) (by kernel_rfl) (by kernel_rfl) (fun _ _ _ h => h) (Or.inl ⟨by kernel_rfl, by intro w; go_simp; try (with_reducible rfl)⟩) ?_
              refine wpAny_take (i := 21) (v := ?_) rfl (by kernel_rfl) (by kernel_rfl) (by kernel_rfl) (fun _ _ _ h => h) (Or.inl ⟨by kernel_rfl, by intro w; go_simp; try (with_reducible rfl)⟩) ?_
              refine wpAny_take (i := 22) (v := ?_) rfl (by kernel_rfl) (by kernel_rfl) (by kernel_rfl) (fun _ _ _ h => h) (Or.inl ⟨by kernel_rfl, by intro w; go_simp; try (with_reducible rfl)⟩) ?_
              refine wpAny_take (i := 23) (v := ?_) rfl (by kernel_rfl) (by kernel_rfl) (by kernel_rfl) (fun _ _ _ h => h) (Or.inl ⟨by kernel_rfl, by intro w; go_simp; try (with_reducible rfl)⟩) ?_
              refine wpAny_take (i := 24) (v := ?_) rfl (by kernel_rfl) (by kernel_rfl) (by kernel_rfl) (fun _ _ _ h => h) (Or.inl ⟨by kernel_rfl, by intro w; go_simp; try (with_reducible rfl)⟩) ?_
              refine wpAny_take (i := 25) (v := ?_) rfl (by kernel_rfl) (by kernel_rfl) (by kernel_rfl) (fun _ _ _ h => h) (Or.inl ⟨by kernel_rfl, by intro w; go_simp; try (with_reducible rfl)⟩) ?_
              refine wpAny_take (i := 26) (v := ?_) rfl (by kernel_rfl) (by kernel_rfl) (by kernel_rfl) (fun _ _ _ h => h) (Or.inl ⟨by kernel_rfl, by intro w; go_simp; try (with_reducible rfl)⟩) ?_
              refine wpAny_take (i := 27) (v := ?_) rfl (by kernel_rfl) (by kernel_rfl) (by kernel_rfl) (fun _ _ _ h => h) (Or.inl ⟨by kernel_rfl, by intro w; go_simp; try (with_reducible rfl)⟩) ?_
              refine wpAny_take (i := 28) (v := ?_) rfl (by kernel_rfl) (by kernel_rfl) (by kernel_rfl) (fun _ _ _ h => h) (Or.inl ⟨by kernel_rfl, by intro w; go_simp; try (with_reducible rfl)⟩) ?_
              refine wpAny_take (i := 29) (v := undef) rfl (by kernel_rfl) (by kernel_rfl) (by kernel_rfl) (fun _ _ _ h => h) (Or.inr ⟨by kernel_rfl, rfl⟩) ?_
              refine wpAny_take (i := 30) (v := undef) rfl (by kernel_rfl) (by kernel_rfl) (by kernel_rfl) (fun _ _ _ h => h) (Or.inr ⟨by kernel_rfl, rfl⟩) ?_
              refine wpAny_take (i := 31) (v := undef) rfl (by kernel_rfl) (by kernel_rfl) (by kernel_rfl) (fun _ _ _ h => h) (Or.inr ⟨by kernel_rfl, rfl⟩) ?_
              refine wpAny_take (i := 32) (v := ?_) rfl (by kernel_rfl) (by kernel_rfl) (by kernel_rfl) (fun _ _ _ h => h) (Or.inl ⟨by kernel_rfl, by intro w; go_simp; try (with_reducible rfl)⟩) ?_
              refine wpAny_take (i := 33) (v := ?_) rfl (by kernel_rfl) (by kernel_rfl) (by kernel_rfl) (fun _ _ _ h => h) (Or.inl ⟨by kernel_rfl, by intro w; go_simp; try (with_reducible rfl)⟩) ?_
              refine wpAny_take (i := 34) (v := ?_) rfl (by kernel_rfl) (by kernel_rfl) (by kernel_rfl) (fun _ _ _ h => h) (Or.inl ⟨by kernel_rfl, by intro w; go_simp; try (with_reducible rfl)⟩) ?_
              refine wpAny_take (i := 35) (v := ?_) rfl (by kernel_rfl) (by kernel_rfl) (by kernel_rfl) (fun _ _ _ h => h) (Or.inl ⟨by kernel_rfl, by intro w; go_simp; try (with_reducible rfl)⟩) ?_
              refine wpAny_take (i := 37) (v := ?_) rfl (by kernel_rfl) (by kernel_rfl) (by kernel_rfl) (fun _ _ _ h => h) (Or.inl ⟨by kernel_rfl, by intro w; go_simp; try (with_reducible rfl)⟩) ?_
              refine wpAny_take (i := 38) (v := ?_) rfl (by kernel_rfl) (by kernel_rfl) (by kernel_rfl) (fun _ _ _ h => h) (Or.inl ⟨by kernel_rfl, by intro w; go_simp; try (with_reducible rfl)⟩) ?_
              refine wpAny_ready (rs := [36]) (by kernel_rfl) (by simp) ?_
              refine AllReady.cons rfl (fun K hK => ?_) (AllReady.nil)
              go_simp
              go_at_call 11
              refine (HS6.out.len).mono ?_
              rintro r w7 ⟨rfl, rfl⟩
              try go_simp
              try (refine hK _ _ ?_; clear hK K)
              refine wpAny_take (i := 39) (v := ?_) rfl (by kernel_rfl) (by kernel_rfl) (by kernel_rfl) (fun _ _ _ h => h) (Or.inl ⟨by kernel_rfl, by intro w; go_simp; try (with_reducible rfl)⟩) ?_
              refine wpAny_take (i := 40) (v := ?_) rfl (by kernel_rfl) (by kernel_rfl) (by kernel_rfl) (fun _ _ _ h => h) (Or.inl ⟨by kernel_rfl, by intro w; go_simp; try (with_reducible rfl)⟩) ?_
              refine wpAny_done (by kernel_rfl) ?_ _
              go_wp2
              go_roundw
              case rel => exact ⟨k + 1, by omega, by go_num, s', hs1', hs2', rfl, by rw [h0], HS6.out, hsr'⟩
              case measure => simp [intOf]; omega
          · have h1 : s'.shut = false := by simpa using h0
            rw [h1] at hrec
            simp only [Bool.false_eq_true, if_false] at hrec
            have HC := Lib.hid hrec
            rw [h1]
            clear hrec
            go_upto_region 35 with (go_at_call 9; refine HC.out.mono ?_; rintro e w3 ⟨u, rfl, ho3, hs3⟩; have HS3 := Lib.hid hs3; have HU := Lib.hid ho3.reads; clear hs3 ho3)
            obtain ⟨Au, cu, rfl, _⟩ := HU.out.form
            have HS6 := Lib.hid (HS3.out.more ((Only.refl Nil w3).drew))
            have HLEN := Lib.hid HS6.out.len
            have hsz := str_size s'.img
            refine wp_region_any (by kernel_rfl) ?_
            change wpAny _ _ _ _ _ _ _ (World.drew _)
            refine wpAny_take (i := 0) (v := ?_) rfl (by kernel_rfl) (by kernel_rfl) (by kernel_rfl) (fun _ _ _ h => h) (Or.inl ⟨by kernel_rfl, by intro w; go_simp; try (with_reducible rfl)⟩) ?_
            refine wpAny_take (i := 1) (v := ?_) rfl (by kernel_rfl) (by kernel_rfl) (by kernel_rfl) (fun _ _ _ h => h) (Or.inl ⟨by kernel_rfl, by intro w; go_simp; try (with_reducible rfl)⟩) ?_
            refine wpAny_take (i := 2) (v := ?_) rfl (by kernel_rfl) (by kernel_rfl) (by kernel_rfl) (fun _ _ _ h => h) (Or.inl ⟨by kernel_rfl, by intro w; go_simp; try (with_reducible rfl)⟩) ?_
            refine wpAny_take (i := 3) (v := ?_) rfl (by kernel_rfl) (by kernel_rfl) (by kernel_rfl) (fun _ _ _ h => h) (Or.inl ⟨by kernel_rfl, by intro w; go_simp; try (with_reducible rfl)⟩) ?_
            refine wpAny_take (i := 4) (v := ?_) rfl (by kernel_rfl) (by kernel_rfl) (by kernel_rfl) (fun _ _ _ h => h) (Or.inl ⟨by kernel_rfl, by intro w; go_simp; try (with_reducible rfl)⟩) ?_
            refine wpAny_take (i := 5) (v := ?_) rfl (by kernel_rfl) (by kernel_rfl) (by kernel_rfl) (fun _ _ _ h => h) (Or.inl ⟨by kernel_rfl, by intro w; go_simp; try (with_reducible rfl)⟩) ?_
            refine wpAny_take (i := 6) (v := undef) rfl (by kernel_rfl) (by kernel_rfl) (by kernel_rfl) (fun _ _ _ h => h) (Or.inr ⟨by kernel_rfl, rfl⟩) ?_
            refine wpAny_take (i := 7) (v := undef) rfl (by kernel_rfl) (by kernel_rfl) (by kernel_rfl) (fun _ _ _ h => h) (Or.inr ⟨by kernel_rfl, rfl⟩) ?_
            refine wpAny_take (i := 8) (v := undef) rfl (by kernel_rfl) (by kernel_rfl) (by kernel_rfl) (fun _ _ _ h => h) (Or.inr ⟨by kernel_rfl, rfl⟩) ?_
            refine wpAny_take (i := 9) (v := undef) rfl (by kernel_rfl) (by kernel_rfl) (by kernel_rfl) (fun _ _ _ h => h) (Or.inr ⟨by kernel_rfl, rfl⟩) ?_
            refine wpAny_take (i := 10) (v := undef) rfl (by kernel_rfl) (by kernel_rfl) (by kernel_rfl) (fun _ _ _ h => h) (Or.inr ⟨by kernel_rfl, rfl⟩) ?_
            refine wpAny_take (i := 11) (v := undef) rfl (by kernel_rfl) (by kernel_rfl) (by kernel_rfl) (fun _ _ _ h => h) (Or.inr ⟨by kernel_rfl, rfl⟩) ?_
            refine wpAny_take (i := 12) (v := undef) rfl (by kernel_rfl) (by kernel_rfl) (by kernel_rfl) (fun _ _ _ h => h) (Or.inr ⟨by kernel_rfl, rfl⟩) ?_
            refine wpAny_take (i := 13) (v := undef) rfl (by kernel_rfl) (by kernel_rfl) (by kernel_rfl) (fun _ _ _ h => h) (Or.inr ⟨by kernel_rfl, rfl⟩) ?_
            refine wpAny_take (i := 14) (v := undef) rfl (by kernel_rfl) (by kernel_rfl) (by kernel_rfl) (fun _ _ _ h => h) (Or.inr ⟨by kernel_rfl, rfl⟩) ?_
            refine wpAny_take (i := 15) (v := undef) rfl (by kernel_rfl) (by kernel_rfl) (by kernel_rfl) (fun _ _ _ h => h) (Or.inr ⟨by kernel_rfl, rfl⟩) ?_
            refine wpAny_take (i := 16) (v := undef) rfl (by kernel_rfl) (by kernel_rfl) (by kernel_rfl) (fun _ _ _ h => h) (Or.inr ⟨by kernel_rfl, rfl⟩) ?_
            refine wpAny_take (i := 17) (v := undef) rfl (by kernel_rfl) (by kernel_rfl) (by kernel_rfl) (fun _ _ _ h => h) (Or.inr ⟨by kernel_rfl, rfl⟩) ?_
            refine wpAny_take (i := 18) (v := undef) rfl (by kernel_rfl) (by kernel_rfl) (by kernel_rfl) (fun _ _ _ h => h) (Or.inr ⟨by kernel_rfl, rfl⟩) ?_
            refine wpAny_take (i := 19) (v := undef) rfl (by kernel_rfl) (by kernel_rfl) (by kernel_rfl) (fun _ _ _ h => h) (Or.inr ⟨by kernel_rfl, rfl⟩) ?_
            refine wpAny_take (i := 20) (v := undef) rfl (by kernel_rfl) (by kernel_rfl) (by kernel_rfl) (fun _ _ _ h => h) (Or.inr ⟨by kernel_rfl, rfl⟩) ?_
            refine wpAny_take (i := 21) (v := undef) rfl (by kernel_rfl) (by kernel_rfl) (by kernel_rfl) (fun _ _ _ h => h) (Or.inr ⟨by kernel_rfl, rfl⟩) ?_
            refine wpAny_take (i := 22) (v := undef) rfl (by kernel_rfl) (by kernel_rfl) (by kernel_rfl) (fun _ _ _ h => h) (Or.inr ⟨by kernel_rfl, rfl⟩) ?_
            refine wpAny_take (i := 23) (v := ?_) rfl (by kernel_rfl) (by kernel_rfl) (by kernel_rfl) (fun _ _ _ h => h) (Or.inl ⟨by kernel_rfl, by intro w; go_simp; try (with_reducible rfl)⟩) ?_
            refine wpAny_take (i := 24) (v := ?_) rfl (by kernel_rfl) (by kernel_rfl) (by kernel_rfl) (fun _ _ _ h => h) (Or.inl ⟨by kernel_rfl, by intro w; go_simp; try (with_reducible rfl)⟩) ?_
            refine wpAny_take (i := 25) (v := ?_) rfl (by kernel_rfl) (by kernel_rfl) (by kernel_rfl) (fun _ _ _ h => h) (Or.inl ⟨by kernel_rfl, by intro w; go_simp; try (with_reducible rfl)⟩) ?_
            refine wpAny_take (i := 26) (v := ?_) rfl (by kernel_rfl) (by kernel_rfl) (by kernel_rfl) (fun _ _ _ h => h) (Or.inl ⟨by kernel_rfl, by intro w; go_simp; try (with_reducible rfl)⟩) ?_
            refine wpAny_take (i := 27) (v := ?_) rfl (by kernel_rfl) (by kernel_rfl) (by kernel_rfl) (fun _ _ _ h => h) (Or.inl ⟨by kernel_rfl, by intro w; go_simp; try (with_reducible rfl)⟩) ?_
            refine wpAny_take (i := 28) (v := ?_) rfl (by kernel_rfl) (by kernel_rfl) (by kernel_rfl) (fun _ _ _ h => h) (Or.inl ⟨by kernel_rfl, by intro w; go_simp; try (with_reducible rfl)⟩) ?_
            refine wpAny_take (i := 29) (v := ?_) rfl (by kernel_rfl) (by kernel_rfl) (by kernel_rfl) (fun _ _ _ h => h) (Or.inl ⟨by kernel_rfl, by intro w; go_simp; try (with_reducible rfl)⟩) ?_
            refine wpAny_take (i := 30) (v := ?_) rfl (by kernel_rfl) (by kernel_rfl) (by kernel_rfl) (fun _ _ _ h => h) (Or.inl ⟨by kernel_rfl, by intro w; go_simp; try (with_reducible rfl)⟩) ?_
            refine wpAny_take (i := 31) (v := ?_) rfl (by kernel_rfl) (by kernel_rfl) (by kernel_rfl) (fun _ _ _ h => h) (Or.inl ⟨by kernel_rfl, by intro w; go_simp; try (with_reducible rfl)⟩) ?_
            refine wpAny_take (i := 32) (v := ?_) rfl (by kernel_rfl) (by kernel_rfl) (by kernel_rfl) (fun _ _ _ h => h) (Or.inl ⟨by kernel_rfl, by intro w; go_simp; try (with_reducible rfl)⟩) ?_
            refine wpAny_take (i := 33) (v := ?_) rfl (by kernel_rfl) (by kernel_rfl) (by kernel_rfl) (fun _ _ _ h => h) (Or.inl ⟨by kernel_rfl, by intro w; go_simp; try (with_reducible rfl)⟩) ?_
            refine wpAny_take (i := 34) (v := ?_) rfl (by kernel_rfl) (by kernel_rfl) (by kernel_rfl) (fun _ _ _ h => h) (Or.inl ⟨by kernel_rfl, by intro w; go_simp; try (with_reducible rfl)⟩) ?_
            refine wpAny_take (i := 35) (v := ?_) rfl (by kernel_rfl) (by kernel_rfl) (by kernel_rfl) (fun _ _ _ h => h) (Or.inl ⟨by kernel_rfl, by intro w; go_simp; try (with_reducible rfl)⟩) ?_
            refine wpAny_take (i := 37) (v := ?_) rfl (by kernel_rfl) (by kernel_rfl) (by kernel_rfl) (fun _ _ _ h => h) (Or.inl ⟨by kernel_rfl, by intro w; go_simp; try (with_reducible rfl)⟩) ?_
            refine wpAny_take (i := 38) (v := ?_) rfl (by kernel_rfl) (by kernel_rfl) (by kernel_rfl) (fun _ _ _ h => h) (Or.inl ⟨by kernel_rfl, by intro w; go_simp; try (with_reducible rfl)⟩) ?_
            refine wpAny_ready (rs := [36]) (by kernel_rfl) (by simp) ?_
            refine AllReady.cons rfl (fun K hK => ?_) (AllReady.nil)
            go_simp
            go_at_call 11
            refine (HLEN.out).mono ?_
            rintro r w7 ⟨rfl, rfl⟩
            try go_simp
            try (refine hK _ _ ?_; clear hK K)
            refine wpAny_take (i := 39) (v := ?_) rfl (by kernel_rfl) (by kernel_rfl) (by kernel_rfl) (fun _ _ _ h => h) (Or.inl ⟨by kernel_rfl, by intro w; go_simp; try (with_reducible rfl)⟩) ?_
            refine wpAny_take (i := 40) (v := ?_) rfl (by kernel_rfl) (by kernel_rfl) (by kernel_rfl) (fun _ _ _ h => h) (Or.inl ⟨by kernel_rfl, by intro w; go_simp; try (with_reducible rfl)⟩) ?_
            refine wpAny_done (by kernel_rfl) ?_ _
            go_wp2
            go_roundw
            case rel => exact ⟨k + 1, by omega, by go_num, s', hs1', hs2', rfl, by rw [h1], HS6.out, hsr'⟩
            case measure => simp [intOf]; omega
      · have g1 : ¬ (k : Int) < (l.length : Int) := by omega
        have HS := Lib.hid hst
        have hok := hst.room
        clear hst
        go_upto_region 38 with (go_at_call 21; refine HS.out.bytes.mono ?_; rintro e w3 ⟨u, rfl, ho3, hs3⟩)
        have H3 := Lib.hid hs3
        have hu := Lib.hid ho3.reads
        obtain ⟨Au, cu, rfl, _⟩ := id hu.out
        have hstr : (convert 26 9 (.slice Au s.img.length cu)).run Tryd.prog w3 = .ok (.string (str s.img)) w3 := str_of (P := Tryd.prog) (src := 26) (e := 5) (dst := 9) Tryd.underlying26 Tryd.underlying5 Tryd.underlying9 (bs := s.img) hu.out
        have d5 : decide ((s.img.length : Int) ≤ most) = true := by have := hok.room; simp; omega
        have hsz := str_size s.img
        have zE : ∀ W, (Op.equalIn 10000 23 (.agg (BC (sha s.img)).toArray) (.agg (BC (sha s.img)).toArray)).run Tryd.prog W = .ok true W := fun W => by rw [equal32 W _ _ (sha_length _) (sha_length _)]; simp
        clear hs3 ho3 HS
        go_wp2_with (first
          | (go_at_call 22; refine H3.out.sum.mono ?_; rintro e w4 ⟨rfl, hs4⟩; obtain ⟨c5, w5, hc5, hb5, ho5, hz5⟩ := conv_bytes s.img w4; clear hz5; obtain ⟨n5, hn5⟩ : ∃ b, w5.heap.size = b := ⟨_, rfl⟩; have HP5 := Lib.hid (show Parts (w5.alloc (.cells #[.slice (some ⟨w4.heap.size, 0, none⟩) s.img.length c5] 26)) (.slice (some ⟨n5, 0, none⟩) 1 1) [.slice (some ⟨w4.heap.size, 0, none⟩) s.img.length c5] [s.img] from hn5 ▸ parts_one (hb5.alloc (.cells #[.slice (some ⟨w4.heap.size, 0, none⟩) s.img.length c5] 26)) (heap_alloc_new w5 _)); have HS4 := Lib.hid hs4; have HB5 := Lib.hid hb5; have HO5 := Lib.hid ho5; clear hs4 hb5 ho5)
          | (go_at_call 20; refine (rsum_any _ _ [s.img] _ HP5.out ?_ (by simp)).mono ?_; rotate_left 1; rintro e w6 ⟨rfl, ho6⟩))
        · go_ret
          exact ⟨rfl, HO.out.then (HS4.out.more ((HO5.out.alloc _).then ho6)).only⟩
        · have := hok.room
          have := hok.most
          simp
          omega
  · have hm' : most < 0 ∨ 16777216 < most := by omega
    go_enter Tryd.func6, Tryd.ntmps6
    go_upto_region 5 with (first
      | (go_at_call 12; refine HBy.out.mono ?_; rintro e w' ⟨rfl, rfl⟩)
      | (go_at_call 7; refine HL.out.mono ?_; rintro e wb ⟨rfl, ho1⟩))
    have HB := Lib.hid (ho1.blk HB0.out id)
    have HO := Lib.hid (HA0.out.then ho1)
    clear HL ho1 HB0 HBy HA0
    go_wp2_with (first
      | ((with_reducible show wpList _ _ _ (Oper.mk _ (.load 23 _) _ _ _ _ :: _) _ _); refine wpList_load_row rfl 23 (.tmp 4) rfl n rfl 23 (BC want).toArray (0, 0) _ HB.out Tryd.underlying23 rfl (by rw [hz]; kernel_rfl) ?_)
      | (go_at_call 8; refine (New_none most want hm' _).mono ?_; rintro e w2 ⟨rfl, ho2⟩))
    all_goals go_ret
    all_goals exact ⟨by first | rfl | (simp; omega), HO.out.then ho2⟩
end Go.Proofs.YthkongkbefpilaaDoor
