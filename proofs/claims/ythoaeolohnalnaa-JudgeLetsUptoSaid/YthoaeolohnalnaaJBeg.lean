/-
  JudgeBeginnings answers true for every configuration, every trace and every number: the walk, and the given row proved.
-/
import Derived.Test.YthoaeolohnalnaaRow4
import Derived.Test.YthoaeolohnalnaaJn
namespace Go.Proofs.Ythoaeolohnalnaa
open Go.RowKit

theorem step_load_row {P : Program} {ops : Array Oper} {o : Oper} {a : Act} {w : World} {K : Act → World → Prop} {Q : Exit → Act → World → Prop} {E : Prop} (hgd : o.guard = none) (ty : TypeId) (x : Operand) (ho : o.op = .load ty x)
    (g : Nat) (hx : a.eval x = .pointer (some ⟨g, 0, none⟩)) (t : TypeId) (cs : Array Value) (fr : Nat × Nat) (d : TypeDesc) (hg : w.heap[g]? = some (.cells cs t fr))
    (hu : P.underlying ty = some d) (hd : (match d with | .struct _ | .array _ _ => true | _ => false) = true) (hi : (P.info? ty).map (·.size) = some cs.size)
    (h : K (a.put o.dst (.agg cs)) w) : if Region.wanted o (yielded ops a.tmps) = true then Oper.wp P o a w K Q else E := by
  rw [if_pos (by simp [Region.wanted, hgd])]
  exact wp_load_row ty x ho g hx t cs fr d hg hu hd hi h
theorem info_event : (Try.prog.info? 48).map (fun i => (i.size, i.bytes)) = some (7, 72) := by kernel_rfl
theorem slice_evs {A : Option Addr} {m cap n : Nat} (hk : n ≤ cap) (W : World) : (Instr.slice 27 (.slice A m cap) none (some (.int .i64 (n : Int))) none).run Try.prog W = .ok (.slice A n cap) W := by
  obtain ⟨ie, hie, hes⟩ := Option.map_eq_some_iff.1 info_event
  injection hes with h1 h2
  have hel : Try.prog.elem 27 = 48 := by simp [Program.elem, Try.underlying27]
  rw [run_slice_h W 27 A m cap (by rw [hel]; exact Try.underlying27) .i64 n (by omega) (by omega), hel]
  have e : sliced A 0 n cap 7 = .slice A n cap := by
    unfold sliced
    cases A <;> simp [Addr.add]
  simp [sizeOf, typeInfo, hie, h1, Result.andThen, e]
theorem evs_take {W : World} {A : Option Addr} {cap : Nat} {l : List Ev} {n : Nat} (h : Evs W (.slice A l.length cap) l) (hn : n ≤ l.length) : Evs W (.slice A n cap) (l.take n) := by
  obtain ⟨A', c', e, hc, hr⟩ := h
  injection e with e1 _ e3
  subst e1 e3
  have hl : (l.take n).length = n := by rw [List.length_take]; omega
  refine ⟨A, cap, by rw [hl], by rw [hl]; omega, fun h0 => ?_⟩
  rw [hl] at h0
  obtain ⟨g, o, rfl, hcell⟩ := hr (by omega)
  refine ⟨g, o, rfl, fun j hj => ?_⟩
  rw [hl] at hj
  rw [getD_take l n j hj]
  exact hcell j (by omega)
set_option maxHeartbeats 6400000 in
set_option maxRecDepth 100000 in
theorem beg_any (c : Cfg) (v : Value) (l : List Ev) (n : Int) (w : World) (hc : c.ok) (hv : Evs w v l) (hd : ∀ j, j < l.length → (l.getD j ev0).data.length ≤ 140737488355328) (hn : l.length ≤ 1000000000000000) :
    Calls Try.prog 9 #[.agg c.cells.toArray, v, .int .i64 n] w fun r w' => r = .returned (.bool true) ∧ Only Nil w w' := by
  have hsz : c.cells.toArray.size = 45 := by rw [List.size_toArray, hc.length]
  have A1 := Lib.hid (show ∀ W, Only Nil w W → Evs W v l from fun W ho => hv.nil ho)
  have HC := Lib.hid hc
  have HD := Lib.hid hd
  obtain ⟨A, cp, rfl, hcp, _⟩ := hv
  clear hc hd
  go_enter Try.func9, Try.ntmps9
  go_upto_region 1 with fail
  obtain ⟨b, hb⟩ : ∃ b, w.heap.size = b := ⟨_, rfl⟩
  refine wp_gen (fun W => Only Nil w W ∧ Blk W b 26 c.cells) ⟨(Only.refl _ _).alloc _, hb ▸ Blk.new w _ _⟩ ?_
  rw [hb]
  clear hb
  intro w1 h1
  have H1 := Lib.hid h1
  clear h1
  go_upto_region 2 with (go_at_call 10; refine (beyond_any _ l _ (A1.out _ H1.out.1) HD.out hn).mono ?_; rintro r w2 ⟨rfl, rfl⟩)
  cases hbe : beyE l
  case true =>
    go_wp2
    go_ret
    exact ⟨rfl, H1.out.1⟩
  case false =>
    obtain ⟨hl1, _⟩ := beyE_false hbe
    clear hbe
    go_upto_region 5 with (go_at_call 11; refine (live_any _).mono ?_; rintro r w2 ⟨rfl, ho2⟩)
    refine wp_gen (fun W => Only Nil w W ∧ Blk W b 26 c.cells) ⟨H1.out.1.then ho2, ho2.blk H1.out.2 id⟩ ?_
    clear H1 ho2
    intro w1 h1
    have H1 := Lib.hid h1
    clear h1
    go_upto_region 6 with (first
      | ((with_reducible show wpList _ _ _ (Oper.mk _ (.load 26 _) _ _ _ _ :: _) _ _); refine wpList_load_row rfl 26 (.tmp 3) rfl b rfl 26 c.cells.toArray (0, 0) _ H1.out.2 Try.underlying26 rfl (by rw [hsz]; kernel_rfl) ?_)
      | (go_at_call 12; refine (judge_any c _ l _ HC.out (A1.out _ H1.out.1) (by omega)).mono ?_; rintro r w2 ⟨⟨a, x, y, rfl, hs⟩, ho2⟩))
    refine wp_gen (fun W => Only Nil w W ∧ Blk W b 26 c.cells) ⟨H1.out.1.then ho2, ho2.blk H1.out.2 id⟩ ?_
    clear H1 ho2
    intro w1 h1
    have H1 := Lib.hid h1
    clear h1
    have HS := Lib.hid hs
    go_cut [56] (fun t wx => t = .bool false ∧ wx = w1)
    case first =>
      rcases hs with ⟨_, rfl, rfl, rfl⟩ | ⟨k, hk, _, _, rfl, rfl, rfl⟩
      · have hlen : ¬ (l.length : Int) ≤ -1 := by omega
        go_wp2_with fail
        go_meet
        exact ⟨rfl, rfl⟩
      · have hk1 : ((k : Int) == -1) = false := by simp
        have hk2 : ¬ (l.length : Int) ≤ (k : Int) := by omega
        go_wp2_with fail
        go_meet
        exact ⟨rfl, rfl⟩
    case rest =>
      obtain ⟨rfl, rfl⟩ := hcut
      clear hs
      by_cases n0 : n < 0
      · go_wp2
        go_ret
        exact ⟨rfl, H1.out.1⟩
      by_cases n1 : (l.length : Int) < n
      · go_wp2
        go_ret
        exact ⟨rfl, H1.out.1⟩
      obtain ⟨m, rfl⟩ := Int.eq_ofNat_of_zero_le (show 0 ≤ n by omega)
      have hm : m ≤ l.length := by omega
      go_upto_region 10 with fail
      go_cut [12, 13, 14] (fun t1 t2 t3 wx => ∃ a' x' y', t1 = .int .i64 a' ∧ t2 = .int .i64 x' ∧ t3 = .int .i64 y' ∧ Says c (l.take m) a' x' y' ∧ Only Nil w wx)
      case first =>
        have hsl := fun W => slice_evs (A := A) (m := l.length) (cap := cp) (n := m) (by omega) W
        have hcall := judge_any c (.slice A m cp) (l.take m) wc.drew HC.out (evs_take (A1.out wc.drew H1.out.1.drew) hm) (by rw [List.length_take]; omega)
        have hblk : Blk wc.drew b 26 c.cells := H1.out.2.drew
        refine wp_region_any (by kernel_rfl) ?_
        change wpAny _ _ _ _ _ _ _ (World.drew _)
        refine wpAny_take (i := 1) (v := ?_) rfl (by kernel_rfl) (by kernel_rfl) (by kernel_rfl) (fun _ _ _ h => h) (Or.inl ⟨by rfl, ?_⟩) ?_
        · exact .slice A l.length cp
        · intro w
          go_simp
        refine wpAny_take (i := 2) (v := ?_) rfl (by kernel_rfl) (by kernel_rfl) (by kernel_rfl) (fun _ _ _ h => h) (Or.inl ⟨by rfl, ?_⟩) ?_
        · exact .int .i64 m
        · intro w
          go_simp
        refine wpAny_ready (rs := [0, 3]) (by kernel_rfl) (by simp) ?_
        refine AllReady.cons rfl (fun K hK => ?_) (AllReady.cons rfl (fun K hK => ?_) AllReady.nil)
        · refine step_load_row rfl 26 (.tmp 3) rfl b rfl 26 c.cells.toArray (0, 0) _ hblk Try.underlying26 rfl (by rw [hsz]; kernel_rfl) ?_
          refine hK _ _ ?_
          clear hK K
          refine wpAny_ready (rs := [3]) (by kernel_rfl) (by simp) ?_
          refine AllReady.cons rfl (fun K hK => ?_) AllReady.nil
          go_simp
          refine hK _ _ ?_
          clear hK K
          refine wpAny_ready (rs := [4]) (by kernel_rfl) (by simp) ?_
          refine AllReady.cons rfl (fun K hK => ?_) AllReady.nil
          go_simp
          go_at_call 12
          refine hcall.mono ?_
          rintro r w5 ⟨⟨a', x', y', rfl, hs'⟩, ho5⟩
          try go_simp
          try (refine hK _ _ ?_; clear hK K)
          refine wpAny_take (i := 5) (v := ?_) rfl (by kernel_rfl) (by kernel_rfl) (by kernel_rfl) (fun _ _ _ h => h) (Or.inl ⟨by rfl, by intro w; go_simp; try (with_reducible rfl)⟩) ?_
          refine wpAny_take (i := 6) (v := ?_) rfl (by kernel_rfl) (by kernel_rfl) (by kernel_rfl) (fun _ _ _ h => h) (Or.inl ⟨by rfl, by intro w; go_simp; try (with_reducible rfl)⟩) ?_
          refine wpAny_take (i := 7) (v := ?_) rfl (by kernel_rfl) (by kernel_rfl) (by kernel_rfl) (fun _ _ _ h => h) (Or.inl ⟨by rfl, by intro w; go_simp; try (with_reducible rfl)⟩) ?_
          refine wpAny_take (i := 8) (v := ?_) rfl (by kernel_rfl) (by kernel_rfl) (by kernel_rfl) (fun _ _ _ h => h) (Or.inl ⟨by rfl, by intro w; go_simp; try (with_reducible rfl)⟩) ?_
          refine wpAny_take (i := 9) (v := ?_) rfl (by kernel_rfl) (by kernel_rfl) (by kernel_rfl) (fun _ _ _ h => h) (Or.inl ⟨by rfl, by intro w; go_simp; try (with_reducible rfl)⟩) ?_
          refine wpAny_take (i := 10) (v := ?_) rfl (by kernel_rfl) (by kernel_rfl) (by kernel_rfl) (fun _ _ _ h => h) (Or.inl ⟨by rfl, by intro w; go_simp; try (with_reducible rfl)⟩) ?_
          refine wpAny_take (i := 11) (v := ?_) rfl (by kernel_rfl) (by kernel_rfl) (by kernel_rfl) (fun _ _ _ h => h) (Or.inl ⟨by rfl, by intro w; go_simp; try (with_reducible rfl)⟩) ?_
          refine wpAny_done (by kernel_rfl) ?_ _
          have HE := Lib.hid (And.intro hs' (H1.out.1.drew.then ho5))
          clear hs' ho5 hcall hsl
          go_simp
          go_wp2_with fail
          go_meet
          exact ⟨a', x', y', rfl, rfl, rfl, HE.out.1, HE.out.2⟩
        · go_simp
          refine hK _ _ ?_
          clear hK K
          refine wpAny_ready (rs := [0]) (by kernel_rfl) (by simp) ?_
          refine AllReady.cons rfl (fun K hK => ?_) AllReady.nil
          refine step_load_row rfl 26 (.tmp 3) rfl b rfl 26 c.cells.toArray (0, 0) _ hblk Try.underlying26 rfl (by rw [hsz]; kernel_rfl) ?_
          refine hK _ _ ?_
          clear hK K
          refine wpAny_ready (rs := [4]) (by kernel_rfl) (by simp) ?_
          refine AllReady.cons rfl (fun K hK => ?_) AllReady.nil
          go_simp
          go_at_call 12
          refine hcall.mono ?_
          rintro r w5 ⟨⟨a', x', y', rfl, hs'⟩, ho5⟩
          try go_simp
          try (refine hK _ _ ?_; clear hK K)
          refine wpAny_take (i := 5) (v := ?_) rfl (by kernel_rfl) (by kernel_rfl) (by kernel_rfl) (fun _ _ _ h => h) (Or.inl ⟨by rfl, by intro w; go_simp; try (with_reducible rfl)⟩) ?_
          refine wpAny_take (i := 6) (v := ?_) rfl (by kernel_rfl) (by kernel_rfl) (by kernel_rfl) (fun _ _ _ h => h) (Or.inl ⟨by rfl, by intro w; go_simp; try (with_reducible rfl)⟩) ?_
          refine wpAny_take (i := 7) (v := ?_) rfl (by kernel_rfl) (by kernel_rfl) (by kernel_rfl) (fun _ _ _ h => h) (Or.inl ⟨by rfl, by intro w; go_simp; try (with_reducible rfl)⟩) ?_
          refine wpAny_take (i := 8) (v := ?_) rfl (by kernel_rfl) (by kernel_rfl) (by kernel_rfl) (fun _ _ _ h => h) (Or.inl ⟨by rfl, by intro w; go_simp; try (with_reducible rfl)⟩) ?_
          refine wpAny_take (i := 9) (v := ?_) rfl (by kernel_rfl) (by kernel_rfl) (by kernel_rfl) (fun _ _ _ h => h) (Or.inl ⟨by rfl, by intro w; go_simp; try (with_reducible rfl)⟩) ?_
          refine wpAny_take (i := 10) (v := ?_) rfl (by kernel_rfl) (by kernel_rfl) (by kernel_rfl) (fun _ _ _ h => h) (Or.inl ⟨by rfl, by intro w; go_simp; try (with_reducible rfl)⟩) ?_
          refine wpAny_take (i := 11) (v := ?_) rfl (by kernel_rfl) (by kernel_rfl) (by kernel_rfl) (fun _ _ _ h => h) (Or.inl ⟨by rfl, by intro w; go_simp; try (with_reducible rfl)⟩) ?_
          refine wpAny_done (by kernel_rfl) ?_ _
          have HE := Lib.hid (And.intro hs' (H1.out.1.drew.then ho5))
          clear hs' ho5 hcall hsl
          go_simp
          go_wp2_with fail
          go_meet
          exact ⟨a', x', y', rfl, rfl, rfl, HE.out.1, HE.out.2⟩
      case rest =>
        obtain ⟨a', x', y', rfl, rfl, rfl, hs', hO⟩ := hcut
        have HO := Lib.hid hO
        obtain ⟨h1, h2⟩ := says_take hm HS.out hs'
        clear hs' HS hO H1
        by_cases hb : 0 ≤ a ∧ a < (m : Int)
        · obtain ⟨rfl, rfl, rfl⟩ := h1 hb
          obtain ⟨b1, b2⟩ := hb
          clear h1 h2
          go_wp2
          go_ret
          exact ⟨by simp, HO.out⟩
        · obtain ⟨rfl, rfl, rfl⟩ := h2 hb
          clear h1 h2
          by_cases b1 : 0 ≤ a
          · have b2 : ¬ a < (m : Int) := fun h => hb ⟨b1, h⟩
            clear hb
            go_wp2
            go_ret
            exact ⟨rfl, HO.out⟩
          · clear hb
            go_wp2
            go_ret
            exact ⟨rfl, HO.out⟩
end Go.Proofs.Ythoaeolohnalnaa
