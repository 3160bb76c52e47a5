/-
  Due: its walk.
-/
import Derived.Test.YtkkjnembjlgiaaaWi
namespace Go.Proofs.Ytkkjnembjlgiaaa
set_option maxRecDepth 100000
open Go.RowKit

theorem info_row : (Try.prog.info? 39).map (fun i => (i.zero, i.size, i.bytes)) = some (some (.slice none 0 0), 1, 24) := by kernel_rfl
def waysN (W : World) (b : Nat) : Nat := match W.cell? ⟨b, 3, none⟩ with | some (.slice _ n _) => n | _ => 0
/-- What Due leaves. -/
def DueR (B : Nat) (w : World) (F : Nat → Prop) (b : Nat) (s : WS) (n : Int) (vl : Value) (w' : World) : Prop :=
  ∃ w1 F1 F', Did B w F b (moveP s n) w1 ∧ (∀ k, F1 k → F k ∨ w.heap.size ≤ k) ∧ DueAt B w1 F1 b (moveP s n) vl w' (dueP s.ways (moveP s n).now).1 (dueP s.ways (moveP s n).now).2 F'
section
variable {B : Nat} {w : World} {F : Nat → Prop} {b : Nat} {s : WS}
set_option maxHeartbeats 3200000 in
theorem due_any (h : IsWire B w F b s) (hm : s.ways.length ≤ 4096) (n : Int) (hn : -9223372036854775808 ≤ n ∧ n ≤ 9223372036854775807) :
    Calls Try.prog 14 #[.pointer (some ⟨b, 0, none⟩), .int .i64 n] w fun e w' => ∃ vl, e = .returned vl ∧ DueR B w F b s n vl w' := by
  have hmv := move_any h n hn
  obtain ⟨il, hil, hlz, hls, hlb⟩ := info_parts info_row
  clear h
  go_enter Try.func14, Try.ntmps14
  go_upto_region 2 with (go_at_call 30; refine hmv.mono ?_; rintro e w1 ⟨rfl, hd1⟩)
  obtain ⟨F1, hw1, hF1⟩ := hd1.wire
  have HD1 := Lib.hid hd1
  have HF1 := Lib.hid hF1
  have hD0 : DueAt B w1 F1 b (moveP s n) (.slice none 0 0) w1 (moveP s n).ways [] F1 := ⟨hw1, ⟨rfl, .inl ⟨rfl, rfl⟩⟩, fun e he => (by cases he), List.Pairwise.nil, fun _ h => h, fun k hk => (hw1.own k hk).2, Only.refl _ _, rfl⟩
  have H0 := Lib.hid hD0
  clear hmv hd1 hF1 hw1 hD0
  obtain ⟨s1, hs1⟩ : ∃ x, moveP s n = x := ⟨_, rfl⟩
  have hways : s1.ways = s.ways := by rw [← hs1]; rfl
  have HS1 := Lib.hid hs1
  have HWY := Lib.hid hways
  rw [hs1] at H0
  clear hs1 hways
  go_wp2
  go_loopw [5] (fun vl wr => ∃ m outs F', DueAt B w1 F1 b s1 vl wr m outs F' ∧ m.length ≤ 4096 ∧ outs.length + m.length ≤ 4096) (fun _ wr => waysN wr b)
  case atStart => exact ⟨_, _, _, H0.out, by rw [HWY.out]; exact hm, by rw [HWY.out]; simpa using hm⟩
  case round =>
    obtain ⟨m, outs, F', hD, hml, hol⟩ := hrel
    obtain ⟨vw, vf, hA⟩ := hD.wire.at'
    have c0 : wr.cell? ⟨b, 0, none⟩ = some (.int .i64 s1.now) := hA.c0
    have c3 := hA.c3
    obtain ⟨A, cap, hvw⟩ := (show OwW B wr vw m from hA.ways).slice
    have HD := Lib.hid hD
    have HA := Lib.hid hA
    have HVW := Lib.hid hvw
    have HOL := Lib.hid hol
    rw [hvw] at c3
    by_cases h0 : m.length = 0
    · have HH0 := Lib.hid h0
      rw [h0] at c3
      have d0 : decide ((0 : Int) < 0) = false := by decide
      clear hD hA hvw h0 hml hol
      go_upto_region 3 with fail
      go_quiet (fail)
      go_wp2
      go_ret
      have hst : dueP m s1.now = (m, []) := dueP_stop (by have := HH0.out; omega)
      have hre := HD.out.rest
      rw [hst, List.append_nil, HWY.out] at hre
      refine ⟨_, rfl, w1, F1, F', HD1.out, HF1.out, ?_⟩
      rw [HS1.out, hre]
      exact HD.out.nil ((Only.refl Nil wr).drewN nq)
    · have hm0 : 0 < m.length := by omega
      obtain ⟨g, cap', hv2, hBg, hgl⟩ := World.ownsRow.form (show OwW B wr vw m from hA.ways) hm0
      obtain ⟨rfl, rfl⟩ : A = some ⟨g, 0, none⟩ ∧ cap = cap' := by
        have := hvw.symm.trans hv2
        injection this with e1 _ e3
        exact ⟨e1, e3⟩
      have hOW : OwW B wr (.slice (some ⟨g, 0, none⟩) m.length cap) m := by rw [← hvw]; exact hA.ways
      obtain ⟨p0, _, _⟩ := hOW.cells3 (j := 0) hm0
      rw [Nat.zero_mul] at p0
      obtain ⟨x, hx⟩ : ∃ x, m.getD 0 wy0 = x := ⟨_, rfl⟩
      rw [hx] at p0
      have HX := Lib.hid hx
      have HM0 := Lib.hid hm0
      obtain ⟨k, hk⟩ : ∃ k, m.length = k := ⟨_, rfl⟩
      have HK := Lib.hid hk
      rw [hk] at c3 hm0
      have d0 : (0 : Int) < (k : Int) := by omega
      have hwn : waysN wr b = k := by unfold waysN; rw [c3]
      have HWN := Lib.hid hwn
      clear hD hA hvw h0 hml hol hv2 hOW hx hk hwn
      go_upto_region 3 with fail
      by_cases hle : x.due ≤ s1.now
      · go_quiet (fail)
        have HDn := Lib.hid (HD.out.nil ((Only.refl Nil wr).drewN nq))
        have HAn := Lib.hid (HA.out.only ((Only.refl Nil wr).drewN nq) fun _ _ e => e)
        have c3n : (wr.drewN nq).cell? ⟨b, 3, none⟩ = some (.slice (some ⟨g, 0, none⟩) k cap) := c3
        have hbx : ∃ y, (wr.drewN nq).heap.size = y := ⟨_, rfl⟩
        generalize wr.drewN nq = w2 at *
        obtain ⟨bx, hbx⟩ := hbx
        clear c0 c3 p0
        go_upto_region 5 with fail
        refine wp_gen (fun W => DueAt B w1 F1 b s1 u5 W m outs F' ∧ WireAt B W F' b vw vf { s1 with ways := m } ∧ Blk W bx 68 [.int .i64 0, .int .i64 0, .slice none 0 0] ∧ Only Nil w2 W) ⟨HDn.out.nil ((Only.refl _ _).alloc _), HAn.out.only ((Only.refl Nil w2).alloc _) fun _ _ e => e, hbx ▸ Blk.new w2 _ _, (Only.refl Nil w2).alloc _⟩ ?_
        have HB0 := Lib.hid hbx
        have HBX := Lib.hid (show ∀ q, F1 q → q ≠ bx from fun q hq e => by have := HDn.out.low q hq; have := HDn.out.only.size; omega)
        clear c3n hbx
        rintro w3 ⟨hD3, hA3, hb3, ho3⟩
        have HO3 := Lib.hid ho3
        clear ho3
        have HD3 := Lib.hid hD3
        have HA3 := Lib.hid hA3
        have HB3 := Lib.hid hb3
        have c3 : w3.cell? ⟨b, 3, none⟩ = some (.slice (some ⟨g, 0, none⟩) k cap) := by rw [hA3.c3, HVW.out, HK.out]
        have hOW : OwW B w3 (.slice (some ⟨g, 0, none⟩) k cap) m := by
          have := hA3.ways
          rw [HVW.out, HK.out] at this
          exact this
        have hpop := pop_any B _ m w3 hOW HM0.out (by have := HOL.out; omega)
        have hpop2 : Calls Try.prog 33 #[.slice (some ⟨g, 0, none⟩) k cap, .func (.func 34) #[] #[]] w3 fun e w' => ∃ A3 q3, e = .returned (.tuple #[.slice A3 (popP m).length q3, .agg #[.int .i64 x.due, .int .i64 x.num, .slice x.a x.bs.length x.cap]]) ∧ OwW B w' (.slice A3 (popP m).length q3) (popP m) ∧ Only (fun j => vw.ownBlock = some j) w3 w' ∧ (Value.slice A3 (popP m).length q3).ownBlock = vw.ownBlock ∧ w'.cell? ⟨b, 3, none⟩ = some (.slice (some ⟨g, 0, none⟩) k cap) ∧ w'.frozen? ⟨b, 3, none⟩ = false ∧ Blk w' bx 68 [.int .i64 0, .int .i64 0, .slice none 0 0] := hpop.mono fun e w' ⟨v', e1, e2, e3, e4⟩ => by
          obtain ⟨A3, q3, rfl⟩ := e2.slice
          have hvb : (Value.slice (some ⟨g, 0, none⟩) k cap).ownBlock = vw.ownBlock := by rw [HVW.out]; rfl
          rw [hvb] at e3 e4
          have hbv : vw.ownBlock ≠ some b := ownN_far HA3.out.ways HA3.out.blk wire_ne_way
          have hb' := e3.blk HA3.out.blk hbv
          have hbx' := e3.blk HB3.out (fun e => HBX.out bx (HD3.out.sub bx (HA3.out.foot.2.1 bx e)) rfl)
          refine ⟨A3, q3, by rw [e1, HX.out]; rfl, e2, e3, e4, ?_, hb'.free 3, hbx'⟩
          rw [hb'.cell, ← HA3.out.blk.cell]
          exact c3
        have HPOP := Lib.hid hpop2
        clear hD3 hA3 hb3 hOW hpop hpop2
        go_upto_region 6 with (go_at_call 33; refine HPOP.out.mono ?_; rintro e w4 ⟨A3, q3, rfl, hw4, ho4, hv4, c3, f3, hbx4⟩; have z0 : w4.cell? ⟨bx, 0, none⟩ = some (.int .i64 0) := hbx4.cell 0; have z1 : w4.cell? ⟨bx, 1, none⟩ = some (.int .i64 0) := hbx4.cell 1; have z2 : w4.cell? ⟨bx, 2, none⟩ = some (.slice none 0 0) := hbx4.cell 2; have fx := hbx4.free; have HQ := Lib.hid (show _ ∧ _ ∧ _ ∧ _ from ⟨hw4, ho4, hv4, hbx4⟩); clear hw4 ho4 hv4 hbx4)
        obtain ⟨hA5, hby5, ho5⟩ := HA3.out.popped HM0.out HQ.out.2.1 HQ.out.1 HQ.out.2.2.1
        have hbx5 := HQ.out.2.2.2.far (p := ⟨b, 3, none⟩) (fun e => HBX.out b (HD3.out.sub b HA3.out.foot.1) (Eq.symm e)) (.slice A3 (popP m).length q3)
        have ho25 : Only F' w2 (w4.setCell ⟨b, 3, none⟩ (.slice A3 (popP m).length q3)) := (HO3.out.mono (T := F') fun _ _ e => e.elim).then ho5
        clear c3 f3 z0 z1 z2 fx HQ HPOP
        generalize w4.setCell ⟨b, 3, none⟩ (.slice A3 (popP m).length q3) = w5 at *
        have hoX : Only (One bx) w5 (((w5.setCell ⟨bx, 0, none⟩ (.int .i64 x.due)).setCell ⟨bx, 1, none⟩ (.int .i64 x.num)).setCell ⟨bx, 2, none⟩ (.slice x.a x.bs.length x.cap)) :=
          (((Only.refl _ _).setCell (p := ⟨bx, 0, none⟩) (.inl (One.self bx)) _).setCell (p := ⟨bx, 1, none⟩) (.inl (One.self bx)) _).setCell (p := ⟨bx, 2, none⟩) (.inl (One.self bx)) _
        have hbX := ((hbx5.set 0 (.int .i64 x.due)).set 1 (.int .i64 x.num)).set 2 (.slice x.a x.bs.length x.cap)
        have hnx : ∀ q, F' q → ¬ One bx q := fun q hq e => HBX.out q (HD3.out.sub q hq) e
        have hA6 := hA5.only hoX fun q hq => hnx q hq.1
        have hby6 : ∀ e ∈ m, OwnB B (((w5.setCell ⟨bx, 0, none⟩ (.int .i64 x.due)).setCell ⟨bx, 1, none⟩ (.int .i64 x.num)).setCell ⟨bx, 2, none⟩ (.slice x.a x.bs.length x.cap)) e.d e.bs := fun e he => own_only (hby5 e he) hoX fun q hq => hnx q (HA3.out.foot.2.2.2 e he q hq)
        have ho26 : Only F' w2 (((w5.setCell ⟨bx, 0, none⟩ (.int .i64 x.due)).setCell ⟨bx, 1, none⟩ (.int .i64 x.num)).setCell ⟨bx, 2, none⟩ (.slice x.a x.bs.length x.cap)) := ho25.trans hoX fun q hq => .inr (by rw [show q = bx from hq, HB0.out]; exact Nat.le_refl _)
        clear hoX hA5 hby5 ho25 hbx5 ho5
        generalize (((w5.setCell ⟨bx, 0, none⟩ (.int .i64 x.due)).setCell ⟨bx, 1, none⟩ (.int .i64 x.num)).setCell ⟨bx, 2, none⟩ (.slice x.a x.bs.length x.cap)) = w6 at *
        have zb : w6.cell? ⟨bx, 2, none⟩ = some (.slice x.a x.bs.length x.cap) := hbX.cell 2
        have hrow6 := own_only HDn.out.row ho26 fun q hq e => by have := (own_block HDn.out.row q hq).1; have := HDn.out.low q (HDn.out.sub q e); omega
        have H6 := Lib.hid (show _ ∧ _ ∧ _ ∧ _ from ⟨hA6, hby6, ho26, hrow6⟩)
        have hb16 : w1.heap.size ≤ w6.heap.size := Nat.le_trans HDn.out.only.size ho26.size
        clear hA6 hby6 ho26 hrow6 hbX hnx
        have ho6a : Only Nil w6 (w6.alloc (.cells #[.slice x.a x.bs.length x.cap] 39)) := (Only.refl Nil w6).alloc _
        go_wp2_with ((with_reducible show wpList _ _ _ (Oper.mk _ (.call { callee := .builtin .append, args := _, argTypes := _ }) _ _ _ _ :: _) _ _); refine wpList_append_row rfl (.tmp 41) (.tmp 44) 31 rfl w1.heap.size 39 il _ 24 Try.underlying31 hil hlz hls hlb rfl u5 outs.length (outs.map Wy.d) rfl (own_only H6.out.2.2.2 ho6a fun _ _ e => e) ⟨w6.heap.size, 0, none⟩ 1 1 [.slice x.a x.bs.length x.cap] rfl rfl (news_block (Blk.new w6 _ _)) (by intro u hu; rw [List.mem_singleton.1 hu]; rfl) (by omega) (by have := HOL.out; unfold maxLen; omega) (by have := HOL.out; omega) (by simp; omega) ?_; intro g7 cap7 w7 hg7)
        have hstep := HDn.out.step (x0 := x) HAn.out ⟨HM0.out, by rw [HX.out]; exact hle⟩ (H6.out.1.only ho6a fun _ _ e => e) (fun e he => own_only (H6.out.2.1 e he) ho6a fun _ _ e => e) (H6.out.2.2.1.then (ho6a.mono fun _ _ e => e.elim)) HX.out.symm hg7
        have hpl := popP_length m HM0.out
        refine ⟨⟨popP m, outs ++ [x], _, hstep, by have := HOL.out; omega, by have := HOL.out; have := HM0.out; rw [List.length_append, hpl]; simp; omega⟩, ?_⟩
        have hq : waysN w7 b = (popP m).length := by
          obtain ⟨vw9, vf9, hA9⟩ := hstep.wire.at'
          obtain ⟨A9, q9, e9⟩ := (show OwW B w7 vw9 (popP m) from hA9.ways).slice
          unfold waysN
          rw [hA9.c3, e9]
        rw [HWN.out, hq, hpl, HK.out]
        omega
      · go_quiet (fail)
        go_wp2
        go_ret
        have hst : dueP m s1.now = (m, []) := dueP_stop (by rw [HX.out]; omega)
        have hre := HD.out.rest
        rw [hst, List.append_nil, HWY.out] at hre
        refine ⟨_, rfl, w1, F1, F', HD1.out, HF1.out, ?_⟩
        rw [HS1.out, hre]
        exact HD.out.nil ((Only.refl Nil wr).drewN nq)
end
end Go.Proofs.Ytkkjnembjlgiaaa
