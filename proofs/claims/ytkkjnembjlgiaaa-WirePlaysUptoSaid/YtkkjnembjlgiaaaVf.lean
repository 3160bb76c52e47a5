/-
  The document's wire (slipwayref22): Due's walk.
-/
import Derived.Test.YtkkjnembjlgiaaaVe
namespace Go.Proofs.Ytkkjnembjlgiaaa
set_option maxRecDepth 100000
open Go.RowKit

def waysV (W : World) (b : Nat) : Nat := match W.cell? ⟨b, 1, none⟩ with | some (.slice _ n _) => n | _ => 0
def RDue (B : Nat) (w : World) (F : Nat → Prop) (b : Nat) (s : WS) (n : Int) (vl : Value) (w' : World) : Prop :=
  ∃ m outs, DueQ (moveP s n).now s.ways m outs ∧ DidV B w F b s { moveP s n with ways := m } w' ∧ w'.ownsRow w.heap.size 39 1 vl outs.length (outs.map Wy.d) ∧ ∀ e ∈ outs, OwnB B w' e.d e.bs ∧ e ∈ s.ways
section
variable {B : Nat} {w w' W w1 w2 : World} {F F' F1 S : Nat → Prop} {b : Nat} {v vl vw vf v' : Value} {s s1 s' : WS} {m outs : List Wy}
theorem getD_mem {k : Nat} (h : k < m.length) : m.getD k wy0 ∈ m := by
  rw [List.getD, List.getElem?_eq_getElem h]
  exact List.getElem_mem h
/-- What is left is the wire's. -/
theorem DueV.step {x : Wy} {k g cap : Nat} {vr : Value} (h : DueV B w F1 b s1 vl w1 m outs F') (hv : IsVire B w2 F' b { s1 with ways := m })
    (hrow : w2.ownsRow w.heap.size 39 1 (.slice (some ⟨g, 0, none⟩) (outs.length + 1) cap) (outs ++ [x]).length ((outs ++ [x]).map Wy.d)) (hfr : ∀ e ∈ outs ++ [x], OwnB B w2 e.d e.bs ∧ e ∈ s1.ways) (hne : ¬ F' g) (ho : Only F1 w w2)
    (h2 : Only Nil w2 W) (hr : W.ownsRow w2.heap.size 73 2 vr (m.eraseIdx k).length (flat2 (m.eraseIdx k))) (hk : IsFst m m.length k) (hx : m.getD k wy0 = x) (hd : x.due ≤ s1.now) :
    ∃ F'', DueV B w F1 b s1 (.slice (some ⟨g, 0, none⟩) (outs.length + 1) cap) (W.setCell ⟨b, 1, none⟩ vr) (m.eraseIdx k) (outs ++ [x]) F'' := by
  obtain ⟨vw, vf, hA⟩ := (hv.nil h2).at'
  have hsub : ∀ e ∈ m.eraseIdx k, e ∈ m := fun e he => List.mem_of_mem_eraseIdx he
  have hrB : OwV B W vr (m.eraseIdx k) := ⟨hr.1, hr.2.imp id fun ⟨g, cap, cur, e1, e2, e3⟩ => ⟨g, cap, cur, e1, Nat.le_trans hv.base e2, e3⟩⟩
  have hrn := ownN_block hr
  have h4 : Only (One b) W (W.setCell ⟨b, 1, none⟩ vr) := (Only.refl _ _).setCell (p := ⟨b, 1, none⟩) (.inl (One.self b)) vr
  have hbF : F' b := hA.foot.1
  have hgl : g < w2.heap.size := (own_block hrow g rfl).2
  have hne' : ∀ k, F' k ∨ vr.ownBlock = some k → k ≠ g := fun j hj e => hj.elim (fun h => hne (e ▸ h)) fun h => by have := (hrn j h).1; omega
  have hA2 : VireAt B W (fun j => F' j ∨ vr.ownBlock = some j) b vw vf { s1 with ways := m } := ⟨hA.blk, hA.ways, hA.fates, hA.each, .inl hA.foot.1, fun k hk => .inl (hA.foot.2.1 k hk), fun k hk => .inl (hA.foot.2.2 k hk)⟩
  refine ⟨fun j => F' j ∨ vr.ownBlock = some j, ⟨⟨vr, vf, hA2.less hrB hsub fun j hj => .inr hj⟩, fun j hj => ?_, Nat.le_trans hv.base (Nat.le_trans h2.size h4.size)⟩, ?_, fun e he => ?_, fun j hj e => hne' j e (Option.some.inj hj).symm, fun j hj => ?_, fun e he => h.inn e (hsub e he), ?_, fun m' os hq => ?_⟩
  · rcases hj with hj | hj
    · exact ⟨(hv.own j hj).1, Nat.lt_of_lt_of_le (hv.own j hj).2 (Nat.le_trans h2.size h4.size)⟩
    · exact ⟨Nat.le_trans hv.base (hrn j hj).1, Nat.lt_of_lt_of_le (hrn j hj).2 h4.size⟩
  · have := own_only (own_only hrow h2 fun _ _ e => e) h4 fun j hj e => hne' j (.inl (by rw [show j = b from e]; exact hbF)) (Option.some.inj hj).symm
    have e : (outs ++ [x]).length = outs.length + 1 := by simp
    rw [e] at this ⊢
    exact this
  · refine ⟨own_only (own_only (hfr e he).1 h2 fun _ _ e => e) h4 fun j hj e' => ?_, (hfr e he).2⟩
    exact ownN_far (own_only (hfr e he).1 h2 fun _ _ e => e) hA.blk (by decide) (by rw [hj, show j = b from e'])
  · rcases hj with hj | hj
    · exact h.sub j hj
    · have := (hrn j hj).1
      have := ho.size
      exact .inr (by omega)
  · exact (ho.then (h2.mono fun _ _ e => e.elim)).trans (h4.mono (T := fun j => F1 j ∨ w.heap.size ≤ j) fun j _ e => by rw [show j = b from e]; exact h.sub b hbF) fun j hj => hj
  · rw [List.append_assoc]
    refine h.rest m' _ ?_
    rw [← hx]
    exact DueQ.step hk (by rw [hx]; exact hd) hq
set_option maxHeartbeats 6400000 in
theorem rdue_any (h : IsVire B w F b s) (hf : s.now ≤ 1125899906842624) (hm : s.ways.length ≤ 4096) (n : Int) :
    Calls Try.prog 22 #[.pointer (some ⟨b, 0, none⟩), .int .i64 n] w fun e w' => ∃ vl, e = .returned vl ∧ RDue B w F b s n vl w' := by
  have hmv := told_any h hf n
  obtain ⟨ir, hir, hrz, hrs, hrb⟩ := info_parts info_rowB
  obtain ⟨iw, hiw, hwz, hws, hwb⟩ := info_parts info_way2
  have HBw := Lib.hid h.base
  clear h
  go_enter Try.func22, Try.ntmps22
  go_upto_region 2 with (go_at_call 35; refine hmv.mono ?_; rintro e w1 ⟨rfl, hd1⟩)
  obtain ⟨F1, hw1, hF1⟩ := hd1.vire
  have HD1 := Lib.hid hd1
  have HF1 := Lib.hid hF1
  have H0 := Lib.hid (show DueV B w1 F1 b (moveP s n) (.slice none 0 0) w1 (moveP s n).ways [] F1 from ⟨hw1, ⟨rfl, .inl ⟨rfl, rfl⟩⟩, fun e he => (by cases he), fun k hk => (by cases hk), fun _ h => .inl h, fun _ h => h, Only.refl _ _, fun _ _ h => h⟩)
  obtain ⟨s1, hs1⟩ : ∃ x, moveP s n = x := ⟨_, rfl⟩
  have hways : s1.ways = s.ways := by rw [← hs1]; rfl
  have HS1 := Lib.hid hs1
  have HWY := Lib.hid hways
  rw [hs1] at H0
  clear hmv hd1 hF1 hw1 hs1 hways
  go_wp2
  go_loopw [5] (fun vl wr => ∃ m outs F', DueV B w1 F1 b s1 vl wr m outs F' ∧ m.length ≤ 4096 ∧ outs.length + m.length ≤ 4096) (fun _ wr => waysV wr b)
  case atStart => exact ⟨_, _, _, H0.out, by rw [HWY.out]; exact hm, by rw [HWY.out]; simpa using hm⟩
  case round =>
    obtain ⟨m, outs, F', hD, hml, hol⟩ := hrel
    have hfst := first_any hD.vire hml
    have HD := Lib.hid hD
    have HWN := Lib.hid (show waysV wr b = m.length from by
      obtain ⟨vw, vf, hA⟩ := hD.vire.at'
      obtain ⟨A, cap, hvw⟩ := (show OwV B wr vw m from hA.ways).slice
      unfold waysV
      rw [hA.c1, hvw])
    obtain ⟨Al, cl, rfl⟩ := own_slice1 hD.row
    clear hD
    go_upto_region 4 with (go_at_call 38; refine hfst.mono ?_; rintro e w2 ⟨ho2, x, rfl, hx⟩)
    have HD2 := Lib.hid (HD.out.nil ho2)
    obtain ⟨vw, vf, hA⟩ := HD2.out.vire.at'
    obtain ⟨A, cap, hvw⟩ := (show OwV B w2 vw m from hA.ways).slice
    have c0 : w2.cell? ⟨b, 0, none⟩ = some (.int .i64 s1.now) := hA.c0
    have c1 : w2.cell? ⟨b, 1, none⟩ = some (.slice A m.length cap) := by rw [hA.c1, hvw]
    have hov : OwV B w2 (.slice A m.length cap) m := by rw [← hvw]; exact hA.ways
    have HVW := Lib.hid hvw
    have HA := Lib.hid hA
    clear hfst hA hvw ho2
    rcases hx with ⟨h0, rfl⟩ | ⟨k, rfl, hk⟩
    · have HQ := Lib.hid (HD2.out.rest m [] (DueQ.stop (.inl h0)))
      clear hov h0
      go_quiet (fail)
      have HD3 := Lib.hid (HD2.out.nil ((Only.refl Nil w2).drewN nq))
      go_wp2
      go_ret
      refine ⟨_, rfl, m, outs, ?_, ?_, ?_, fun e he => ?_⟩
      · have := HQ.out
        rw [List.append_nil, HWY.out] at this
        rw [HS1.out]
        exact this
      · rw [HS1.out]
        refine ⟨⟨F', HD3.out.vire, fun k hk => (HD3.out.sub k hk).elim (HF1.out k) fun h => .inr (Nat.le_trans HD1.out.only.size h)⟩, HD1.out.only.trans HD3.out.only HF1.out, fun k hk => .inl ?_⟩
        obtain ⟨e, he, hk⟩ := hk
        exact ⟨e, by rw [← HWY.out]; exact HD3.out.inn e he, hk⟩
      · have := HD3.out.row
        have hs := HD1.out.only.size
        exact ⟨this.1, this.2.imp id fun ⟨g, cap, cur, e1, e2, e3⟩ => ⟨g, cap, cur, e1, by omega, e3⟩⟩
      · rw [← HWY.out]
        exact HD3.out.frames e he
    · obtain ⟨g, rfl, p0, p1⟩ := hov.cells (j := k) hk.lt
      have g1 : ¬ (k : Int) < 0 := by omega
      have g2 : (k : Int) < (m.length : Int) := by have := hk.lt; omega
      by_cases hle : (m.getD k wy0).due ≤ s1.now
      · obtain ⟨x, hx⟩ : ∃ x, m.getD k wy0 = x := ⟨_, rfl⟩
        have HX := Lib.hid hx
        have HK := Lib.hid hk
        rw [hx] at p0 p1 hle
        have HXM := Lib.hid (show x ∈ m from hx ▸ getD_mem hk.lt)
        obtain ⟨L, hL⟩ : ∃ L, m.length = L := ⟨_, rfl⟩
        have HLL := Lib.hid hL
        have hkL : k < L := by rw [← hL]; exact hk.lt
        rw [hL] at c1 hov g2 hml hol HWN
        clear hk hx hL
        go_quiet (fail)
        have HD3 := Lib.hid (HD2.out.nil ((Only.refl Nil w2).drewN nq))
        have c1' : (w2.drewN nq).cell? ⟨b, 1, none⟩ = some (.slice (some ⟨g, 0, none⟩) L cap) := c1
        have p1' : (w2.drewN nq).cell? ⟨g, k * 2 + 1, none⟩ = some (.slice x.a x.bs.length x.cap) := p1
        have hsz3 : w1.heap.size ≤ (w2.drewN nq).heap.size := HD3.out.only.size
        clear c0 c1 p0 p1 hov HA
        generalize w2.drewN nq = w3 at *
        go_upto_region 7 with ((with_reducible show wpList _ _ _ (Oper.mk _ (.call { callee := .builtin .append, args := _, argTypes := _ }) _ _ _ _ :: _) _ _); refine wpList_append_row rfl (.tmp 32) (.tmp 41) 31 rfl w1.heap.size 39 ir _ 24 Try.underlying31 hir hrz hrs hrb rfl (.slice Al outs.length cl) outs.length (outs.map Wy.d) rfl (own_only HD3.out.row ((Only.refl Nil _).alloc _) fun _ _ e => e) _ 1 1 [.slice x.a x.bs.length x.cap] rfl rfl (news_block (Blk.new _ _ _)) (by intro u hu; rw [List.mem_singleton.1 hu]; rfl) (by omega) (by unfold maxLen; omega) (by omega) (by simp; omega) ?_; intro g7 cap7 w7 hg7; have HGR := Lib.hid (DueV.out HD3.out ((Only.refl Nil w3).alloc _) hg7 HXM.out); clear hg7)
        obtain ⟨hv7, hrow7, hfr7, hne7, ho7⟩ := HGR.out
        obtain ⟨vw7, vf7, hA7⟩ := hv7.at'
        obtain ⟨A7, q7, hvw7⟩ := hA7.ways.slice
        have HC := Lib.hid (show ∀ W, Only Nil w7 W → W.cell? ⟨b, 1, none⟩ = some (.slice A7 L q7) ∧ OwV B W (.slice A7 L q7) m ∧ W.frozen? ⟨b, 1, none⟩ = false from fun W ho => by
          have h1 := hA7.nil ho
          have h2 := h1.ways
          have h3 := h1.c1
          have e : ({ s1 with ways := m } : WS).ways.length = L := HLL.out
          rw [hvw7, e] at h2 h3
          exact ⟨h3, h2, h1.blk.free 1⟩)
        clear hv7 hrow7 hfr7 hne7 ho7 hA7 hvw7 c1' p1'
        go_wp2
        go_loopw [7, 8] (fun rv iv W => ∃ i : Nat, i ≤ L ∧ iv = .int .i64 i ∧ Only Nil w7 W ∧ W.ownsRow w7.heap.size 73 2 rv ((m.take i).eraseIdx k).length (flat2 ((m.take i).eraseIdx k))) (fun _ iv _ => L - (intOf iv).toNat)
        case atStart => exact ⟨0, Nat.zero_le _, rfl, Only.refl _ _, ⟨rfl, .inl ⟨rfl, rfl⟩⟩⟩
        case round =>
          obtain ⟨i, hi, rfl, hoi, hri⟩ := hrel
          obtain ⟨e1, hov, z1⟩ := HC.out wr hoi
          have HOI := Lib.hid hoi
          by_cases hiL : i < L
          · obtain ⟨gq, rfl, p0, p1⟩ := hov.cells (j := i) (by rw [HLL.out]; exact hiL)
            have HRS := Lib.hid (rest_succ m i k (by rw [HLL.out]; exact hiL))
            have g3 : (i : Int) < (L : Int) := by omega
            by_cases hik : i = k
            · have HRI := Lib.hid hri
              have HIK := Lib.hid hik
              have g4 : (i : Int) = (k : Int) := by omega
              clear hoi hri hov p0 p1 hik
              go_wp2
              go_roundw
              case rel => exact ⟨i + 1, by omega, by go_num, HOI.out, by rw [HRS.out, if_pos HIK.out]; exact HRI.out⟩
              case measure => simp only [intOf]; omega
            · have HIK := Lib.hid hik
              have g4 : ¬ (i : Int) = (k : Int) := by omega
              obtain ⟨y, hy⟩ : ∃ y, m.getD i wy0 = y := ⟨_, rfl⟩
              rw [hy] at p0 p1 HRS
              obtain ⟨rs, hrs'⟩ : ∃ rs, (m.take i).eraseIdx k = rs := ⟨_, rfl⟩
              rw [hrs'] at hri HRS
              have hrl : rs.length ≤ 4096 := by
                rw [← hrs']
                have := List.length_eraseIdx_le (m.take i) k
                have : (m.take i).length ≤ 4096 := by rw [List.length_take]; omega
                omega
              obtain ⟨Ar, cr, rfl⟩ : ∃ A c, u7 = .slice A rs.length c := by
                rcases hri.2 with ⟨e, h0⟩ | ⟨g, cap, cur, e, _⟩
                · exact ⟨none, 0, by rw [e, h0]⟩
                · exact ⟨_, _, e⟩
              have HRI := Lib.hid hri
              have hsz := hoi.size
              clear hoi hri hov hik hy hrs'
              go_wp2_with ((with_reducible show wpList _ _ _ (Oper.mk _ (.call { callee := .builtin .append, args := _, argTypes := _ }) _ _ _ _ :: _) _ _); refine wpList_append_rowN rfl (.tmp 55) (.tmp 63) 57 rfl w7.heap.size 73 iw _ 2 32 Try.underlying57 hiw hwz hws hwb rfl (by decide) (.slice Ar rs.length cr) rs.length (flat2 rs) rfl (ownN_only HRI.out ((Only.refl Nil _).alloc _) fun _ _ e => e) _ 1 1 (Wy.cells2 y) rfl rfl (news_block (Blk.new _ _ _)) (wy_one2 _) (by omega) (by unfold maxLen; omega) (by omega) (by simp; omega) ?_; intro g9 cap9 w9 hg9; have HG9 := Lib.hid hg9; clear hg9)
              go_roundw
              case rel =>
                refine ⟨i + 1, by omega, by go_num, HOI.out.trans ((((Only.refl Nil wr).alloc _).mono (T := fun j => w7.heap.size ≤ j) (fun _ _ e => e.elim)).then (Only.of_grown HG9.out.grown fun j hj => .inl (ownN_block HRI.out j hj).1)) fun j hj => .inr hj, ?_⟩
                rw [HRS.out, if_neg HIK.out, List.length_append, flat2_snoc]
                exact HG9.out.own
              case measure => simp only [intOf]; omega
          · have hil : i = L := by omega
            subst hil
            have g3 : ¬ (i : Int) < (i : Int) := by omega
            have hte : m.take i = m := by rw [← HLL.out, List.take_length]
            rw [hte] at hri
            obtain ⟨Ar, cr, rfl⟩ : ∃ A c, u7 = .slice A (m.eraseIdx k).length c := by
              rcases hri.2 with ⟨e, h0⟩ | ⟨g, cap, cur, e, _⟩
              · exact ⟨none, 0, by rw [e, h0]⟩
              · exact ⟨_, _, e⟩
            have hln : (m.eraseIdx k).length + 1 = i := by
              rw [List.length_eraseIdx, HLL.out, if_pos hkL]
              omega
            obtain ⟨q, hq⟩ : ∃ q, (m.eraseIdx k).length = q := ⟨_, rfl⟩
            have HQ := Lib.hid hq
            rw [hq] at hln hri ⊢
            have HST := Lib.hid (HD3.out.step HGR.out.1 HGR.out.2.1 HGR.out.2.2.1 HGR.out.2.2.2.1 HGR.out.2.2.2.2 hoi (vr := .slice Ar q cr) (by rw [HQ.out]; exact hri) HK.out HX.out hle)
            have HZN := Lib.hid (show waysV (wr.setCell ⟨b, 1, none⟩ (.slice Ar q cr)) b = q from by
              obtain ⟨F'', hs⟩ := HST.out
              obtain ⟨vw, vf, hA⟩ := hs.vire.at'
              have hc := hA.c1
              have := ((HGR.out.1.nil hoi).at')
              obtain ⟨vw', vf', hA'⟩ := this
              have := (hA'.blk.set 1 (.slice Ar q cr)).cell 1
              unfold waysV
              rw [this]
              rfl)
            clear hoi hri hov hte hq
            go_wp2
            go_roundw
            case rel =>
              obtain ⟨F'', hs⟩ := HST.out
              exact ⟨_, _, F'', hs, by rw [HQ.out]; omega, by rw [HQ.out, List.length_append, List.length_singleton]; omega⟩
            case measure =>
              rw [HZN.out, HWN.out]
              omega
      · have HQ := Lib.hid (HD2.out.rest m [] (DueQ.stop (.inr ⟨k, hk, by omega⟩)))
        generalize (m.getD k wy0).due = dk at *
        have g3 : s1.now < dk := by omega
        clear hov hk p1
        go_quiet (fail)
        have HD3 := Lib.hid (HD2.out.nil ((Only.refl Nil w2).drewN nq))
        go_wp2
        go_ret
        refine ⟨_, rfl, m, outs, ?_, ?_, ?_, fun e he => ?_⟩
        · have := HQ.out
          rw [List.append_nil, HWY.out] at this
          rw [HS1.out]
          exact this
        · rw [HS1.out]
          refine ⟨⟨F', HD3.out.vire, fun k hk => (HD3.out.sub k hk).elim (HF1.out k) fun h => .inr (Nat.le_trans HD1.out.only.size h)⟩, HD1.out.only.trans HD3.out.only HF1.out, fun k hk => .inl ?_⟩
          obtain ⟨e, he, hk⟩ := hk
          exact ⟨e, by rw [← HWY.out]; exact HD3.out.inn e he, hk⟩
        · have := HD3.out.row
          have hs := HD1.out.only.size
          exact ⟨this.1, this.2.imp id fun ⟨g, cap, cur, e1, e2, e3⟩ => ⟨g, cap, cur, e1, by omega, e3⟩⟩
        · rw [← HWY.out]
          exact HD3.out.frames e he
end
end Go.Proofs.Ytkkjnembjlgiaaa
