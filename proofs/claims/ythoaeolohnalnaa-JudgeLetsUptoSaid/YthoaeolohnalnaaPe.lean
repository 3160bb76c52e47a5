/-
  Events, and one more, in a list of its own (with).
-/
import Derived.Test.YthoaeolohnalnaaPc
namespace Go.Proofs.Ythoaeolohnalnaa
open Go.RowKit

theorem take_snocP (l : List Ev) (k : Nat) (h : k < l.length) : l.take (k + 1) = l.take k ++ [l.getD k ev0] := by
  rw [List.take_succ_eq_append_getElem h]
  simp [List.getD, List.getElem?_eq_getElem h]
set_option maxHeartbeats 3200000 in
set_option maxRecDepth 100000 in
theorem with_any (v : Value) (l : List Ev) (e : Ev) (w : World) (hv : Evs w v l) (he : e.ok w) (hn : l.length ≤ 1000000000) :
    Calls Try.prog 15 #[v, e.v] w fun r w' => ∃ v', r = .returned v' ∧ Evs w' v' (l ++ [e]) ∧ Only Nil w w' := by
  obtain ⟨ie, hie, hez, hes, heb⟩ := info_parts info_evt
  have HV := Lib.hid (show ∀ W, Only Nil w W → Evs W v l from fun W ho => hv.nil ho)
  have HE := Lib.hid (show ∀ W, Only Nil w W → e.ok W from fun W ho => he.off ho fun _ _ _ => id)
  obtain ⟨A, c, rfl, hc⟩ := hv.form
  clear hv he
  obtain ⟨ecs, hecs⟩ : ∃ ecs, e.cells = ecs := ⟨_, rfl⟩
  have HEC := Lib.hid hecs
  clear hecs
  obtain ⟨ev, hev⟩ : ∃ x, e = x := ⟨_, rfl⟩
  have HEV := Lib.hid hev
  rw [hev]
  clear hev
  obtain ⟨kind, time, ip, till, why, len, a, cap, data⟩ := ev
  unfold Ev.v
  go_enter Try.func15, Try.ntmps15
  go_upto_region 1 with fail
  obtain ⟨b, hb⟩ : ∃ b, w.heap.size = b := ⟨_, rfl⟩
  have HB := Lib.hid hb
  refine wp_gen (fun W => Only Nil w W ∧ Blk W b 48 [.int .i64 kind, .int .i64 time, .int .u32 ip, .int .i64 till, .int .i64 why, .int .i64 len, .slice a data.length cap]) ⟨(Only.refl _ _).alloc _, hb ▸ Blk.new w _ _⟩ ?_
  rw [hb]
  clear hb
  intro w1 h1
  have H1 := Lib.hid h1
  clear h1
  go_upto_region 3 with fail
  go_loopw [5, 6] (fun o i wr => ∃ (k : Nat) (vo : Value), k ≤ l.length ∧ i = .int .i64 (k : Nat) ∧ vo = o ∧ Only Nil w wr ∧ Blk wr b 48 [.int .i64 kind, .int .i64 time, .int .u32 ip, .int .i64 till, .int .i64 why, .int .i64 len, .slice a data.length cap] ∧ wr.ownsRow (b + 1) 48 7 vo k (flatE (l.take k))) (fun _ i _ => l.length - (intOf i).toNat)
  case atStart => exact ⟨0, _, Nat.zero_le _, rfl, rfl, H1.out.1, H1.out.2, rfl, .inl ⟨rfl, rfl⟩⟩
  case round =>
    obtain ⟨k, vo, hk, rfl, rfl, hO, hB, hown⟩ := hrel
    clear H1
    have HO := Lib.hid hO
    have HBk := Lib.hid hB
    have HOwn := Lib.hid hown
    have hsz := hB.lt
    clear hO hB hown
    by_cases hlt : k < l.length
    · have g1 : (k : Int) < (l.length : Int) := by omega
      obtain ⟨g, o, rfl, hcell, _⟩ := (HV.out _ HO.out).at hlt
      have HT := Lib.hid (show flatE (l.take (k + 1)) = flatE (l.take k) ++ (l.getD k ev0).cells by rw [take_snocP l k hlt, flatE_snoc])
      generalize l.getD k ev0 = x at *
      obtain ⟨xkind, xtime, xip, xtill, xwhy, xlen, xa, xcap, xdata⟩ := x
      have q0 : wr.cell? ⟨g, o + k * 7, none⟩ = some (.int .i64 xkind) := hcell 0 (by omega)
      have q1 : wr.cell? ⟨g, o + k * 7 + 1, none⟩ = some (.int .i64 xtime) := hcell 1 (by omega)
      have q2 : wr.cell? ⟨g, o + k * 7 + 2, none⟩ = some (.int .u32 xip) := hcell 2 (by omega)
      have q3 : wr.cell? ⟨g, o + k * 7 + 3, none⟩ = some (.int .i64 xtill) := hcell 3 (by omega)
      have q4 : wr.cell? ⟨g, o + k * 7 + 4, none⟩ = some (.int .i64 xwhy) := hcell 4 (by omega)
      have q5 : wr.cell? ⟨g, o + k * 7 + 5, none⟩ = some (.int .i64 xlen) := hcell 5 (by omega)
      have q6 : wr.cell? ⟨g, o + k * 7 + 6, none⟩ = some (.slice xa xdata.length xcap) := hcell 6 (by omega)
      clear hcell
      go_wp2_with ((with_reducible show wpList _ _ _ (Oper.mk _ (.call { callee := .builtin .append, args := _, argTypes := _ }) _ _ _ _ :: _) _ _); refine wpList_append_rowN (by rfl) _ _ _ (by rfl) (b + 1) 48 ie _ 7 72 Try.underlying27 hie hez hes heb rfl (by omega) vo k (flatE (l.take k)) (by rfl) (ownN_only HOwn.out ((Only.refl Nil wr).alloc _) fun _ _ => id) ⟨wr.heap.size, 0, none⟩ 1 1 (Ev.cells ⟨xkind, xtime, xip, xtill, xwhy, xlen, xa, xcap, xdata⟩) (by rfl) (by rfl) (news_block (Blk.new wr 48 (Ev.cells ⟨xkind, xtime, xip, xtill, xwhy, xlen, xa, xcap, xdata⟩))) (ev_one7 _) (by omega) (by unfold maxLen; omega) (by omega) (by simp; omega) ?_; intro g6 cap6 w6 hg6; have HG := Lib.hid hg6; clear hg6)
      have HF := Lib.hid (show Only Nil w w6 ∧ Blk w6 b 48 [.int .i64 kind, .int .i64 time, .int .u32 ip, .int .i64 till, .int .i64 why, .int .i64 len, .slice a data.length cap] ∧ w6.ownsRow (b + 1) 48 7 (.slice (some ⟨g6, 0, none⟩) (k + 1) cap6) (k + 1) (flatE (l.take (k + 1))) from by
        have hOn : Only (fun k => vo.ownBlock = some k) _ w6 := Only.of_grown HG.out.grown fun i hi => .inl hi
        have hS := fun k hk => (ownN_block HOwn.out k hk).1
        refine ⟨(HO.out.alloc _).trans hOn fun i hi => .inr (by have := hS i hi; have := HB.out; omega), hOn.blk (HBk.out.alloc _) (fun h => by have := hS b h; omega), ?_⟩
        rw [HT.out]
        exact HG.out.own)
      go_roundw
      case rel => exact ⟨k + 1, _, by omega, by go_num, rfl, HF.out⟩
      case measure => simp [intOf]; omega
    · obtain rfl : k = l.length := by omega
      have g1 : ¬ (l.length : Int) < (l.length : Int) := by omega
      have q0 : wr.cell? ⟨b, 0, none⟩ = some (.int .i64 kind) := HBk.out.cell 0
      have q1 : wr.cell? ⟨b, 1, none⟩ = some (.int .i64 time) := HBk.out.cell 1
      have q2 : wr.cell? ⟨b, 2, none⟩ = some (.int .u32 ip) := HBk.out.cell 2
      have q3 : wr.cell? ⟨b, 3, none⟩ = some (.int .i64 till) := HBk.out.cell 3
      have q4 : wr.cell? ⟨b, 4, none⟩ = some (.int .i64 why) := HBk.out.cell 4
      have q5 : wr.cell? ⟨b, 5, none⟩ = some (.int .i64 len) := HBk.out.cell 5
      have q6 : wr.cell? ⟨b, 6, none⟩ = some (.slice a data.length cap) := HBk.out.cell 6
      have HT := Lib.hid (show flatE (l.take l.length) = flatE l by rw [List.take_length])
      go_wp2_with ((with_reducible show wpList _ _ _ (Oper.mk _ (.call { callee := .builtin .append, args := _, argTypes := _ }) _ _ _ _ :: _) _ _); refine wpList_append_rowN (by rfl) _ _ _ (by rfl) (b + 1) 48 ie _ 7 72 Try.underlying27 hie hez hes heb rfl (by omega) vo l.length (flatE (l.take l.length)) (by rfl) (ownN_only HOwn.out ((Only.refl Nil wr).alloc _) fun _ _ => id) ⟨wr.heap.size, 0, none⟩ 1 1 (Ev.cells ⟨kind, time, ip, till, why, len, a, cap, data⟩) (by rfl) (by rfl) (news_block (Blk.new wr 48 (Ev.cells ⟨kind, time, ip, till, why, len, a, cap, data⟩))) (ev_one7 _) (by omega) (by unfold maxLen; omega) (by omega) (by simp; omega) ?_; intro g6 cap6 w6 hg6; have HG := Lib.hid hg6; clear hg6)
      have hOn : Only (fun k => vo.ownBlock = some k) _ w6 := Only.of_grown HG.out.grown fun i hi => .inl hi
      have hS := fun k hk => (ownN_block HOwn.out k hk).1
      have hO6 : Only Nil w w6 := (HO.out.alloc _).trans hOn fun i hi => .inr (by have := hS i hi; have := HB.out; omega)
      have hown := HG.out.own
      rw [HT.out, ← flatE_snoc] at hown
      have HF := Lib.hid (And.intro hO6 hown)
      clear hOn hS hO6 hown q0 q1 q2 q3 q4 q5 q6
      go_ret
      refine ⟨_, rfl, ?_, HF.out.1⟩
      have hEE := HEV.out
      refine ⟨some ⟨g6, 0, none⟩, cap6, by rw [List.length_append, List.length_singleton]; rfl, by rw [List.length_append, List.length_singleton]; obtain ⟨_, _, e1, e2, _⟩ := ownN_form HF.out.2; injection e1 with _ _ e3; omega, fun _ => ⟨g6, 0, rfl, fun j hj => ⟨fun i hi => ?_, ?_⟩⟩⟩
      · have hof := ownN_form HF.out.2
        obtain ⟨A9, cap9, e1, _, hr⟩ := hof
        injection e1 with e1 _ _
        subst e1
        obtain ⟨g7, e2, hcell⟩ := hr (by omega)
        injection e2 with e2
        injection e2 with e2 _ _
        subst e2
        have hi7 : i < ((l ++ [(⟨kind, time, ip, till, why, len, a, cap, data⟩ : Ev)]).getD j ev0).cells.length := hi
        rw [Nat.zero_add, List.getElem?_eq_getElem hi7]
        refine hcell _ _ ?_
        rw [flatE_get _ j i hj hi, List.getElem?_eq_getElem hi7]
      · by_cases hjl : j < l.length
        · rw [snoc_lowP l _ hjl]
          exact ((HV.out _ HF.out.1).at hjl).choose_spec.choose_spec.2.2
        · have : j = l.length := by rw [List.length_append, List.length_singleton] at hj; omega
          subst this
          rw [snoc_endP, ← hEE]
          exact HE.out _ HF.out.1
end Go.Proofs.Ythoaeolohnalnaa
