/-
  The phases of a trace: the closure that turns to a phase, and the walk over the events.
-/
import Derived.Test.YthoaeolohnalnaaJi
namespace Go.Proofs.Ythoaeolohnalnaa
open Go.RowKit

def IC (l : List Int) : List Value := l.map fun x => Value.int .i64 x
theorem IC_length (l : List Int) : (IC l).length = l.length := by simp [IC]
theorem IC_one (l : List Int) : ∀ v ∈ IC l, v.oneCell' = true := by
  intro v hv
  simp only [IC, List.mem_map] at hv
  obtain ⟨c, _, rfl⟩ := hv
  rfl
/-- The phases so far: in a row of the call's own, to which block b's one cell leads. -/
def PhAt (W : World) (b base : Nat) (out : List Int) : Prop := ∃ v, Blk W b 49 [v] ∧ W.ownsRow base 3 1 v out.length (IC out) ∧ base ≤ b
def turnP (out : List Int) (p : Int) : List Int := if out.getLast? = some p then out else out ++ [p]
theorem info_int : (Try.prog.info? 3).map (fun i => (i.zero, i.size, i.bytes)) = some (some (.int .i64 0), 1, 8) := by kernel_rfl
theorem own_far {W : World} {base : Nat} {e t : TypeId} {v : Value} {n : Nat} {xs cs : List Value} {g : Nat} (h : W.ownsRow base e 1 v n xs) (hb : Blk W g t cs) (ht : e ≠ t) : v.ownBlock ≠ some g := by
  rcases h.2 with ⟨rfl, _⟩ | ⟨k, cap, cur, rfl, _, hh, _⟩
  · simp [Value.ownBlock]
  · intro hk
    obtain rfl : k = g := Option.some.inj hk
    rw [hb] at hh
    injection hh with hh
    injection hh with _ hh
    exact ht hh.symm
set_option maxHeartbeats 1600000 in
theorem turn_any (b base : Nat) (pre : List Int) (x p : Int) (w : World) (h : PhAt w b base (pre ++ [x])) (hl : pre.length ≤ 1000000000000) (hbase : base ≤ w.heap.size) :
    Calls Try.prog 34 #[.int .i64 p, .pointer (some ⟨b, 0, none⟩)] w fun r w' => r = .returned (.tuple #[]) ∧ PhAt w' b base (turnP (pre ++ [x]) p) ∧ Only (fun k => base ≤ k) w w' := by
  obtain ⟨ii, hii, hiz, his, hib⟩ := info_parts info_int
  obtain ⟨v, hB, hO, hbb⟩ := h
  have hne := own_far hO hB (by decide)
  have hO2 := hO
  rw [List.length_append, List.length_singleton] at hO
  obtain ⟨g, cap, rfl, hcap, hg, hg2, hcell⟩ := own_form hO (by omega)
  have cx : w.cell? ⟨g, pre.length, none⟩ = some (.int .i64 x) := by
    have := hcell pre.length (by omega)
    rw [this]
    simp [IC, List.getD]
  have cb : w.cell? ⟨b, 0, none⟩ = some (.slice (some ⟨g, 0, none⟩) (pre.length + 1) cap) := hB.cell 0
  have HB := Lib.hid (And.intro hB (And.intro hO (And.intro hbb hne)))
  have HO2 := Lib.hid hO2
  have HT := Lib.hid (show turnP (pre ++ [x]) p = if x = p then pre ++ [x] else pre ++ [x] ++ [p] by unfold turnP; simp)
  generalize hm : pre.length = m at *
  have HM := Lib.hid hm
  clear hcell hB hO hO2 hg hg2 hcap hbb hne hm
  go_enter Try.func34, Try.ntmps34
  by_cases hxp : x = p
  · have hxb : (x != p) = false := by simp [hxp]
    have HT2 := Lib.hid (HT.out.trans (if_pos hxp))
    clear hxp HT
    go_wp2
    go_end0
    exact ⟨rfl, by rw [HT2.out]; exact ⟨_, HB.out.1, HO2.out, HB.out.2.2.1⟩, Only.refl _ _⟩
  · have hxb : (x != p) = true := by simp [hxp]
    have HT2 := Lib.hid (HT.out.trans (if_neg hxp))
    clear hxp HT
    go_wp2_with ((with_reducible show wpList _ _ _ (Oper.mk _ (.call { callee := .builtin .append, args := _, argTypes := _ }) _ _ _ _ :: _) _ _); refine wpList_append_row (by rfl) _ _ _ (by rfl) base 3 ii _ 8 Try.underlying49 hii hiz his hib rfl _ (m + 1) (IC (pre ++ [x])) (by rfl) (own_only HB.out.2.1 ((Only.refl Nil w).alloc _) fun _ _ => id) ⟨w.heap.size, 0, none⟩ 1 1 (IC [p]) (by rfl) (by rfl) (news_block (Blk.new w 3 (IC [p]))) (IC_one _) (by omega) (by unfold maxLen; omega) (by omega) (by simp; omega) ?_; intro g6 cap6 w6 hg6; have HG := Lib.hid hg6; have hbk := (Only.of_grown (S := fun k => (Value.slice (some ⟨g, 0, none⟩) (m + 1) cap).ownBlock = some k) hg6.grown fun i hi => .inl hi).blk (HB.out.1.alloc _) HB.out.2.2.2; have d1 : w6.cell? ⟨b, 0, none⟩ = some (.slice (some ⟨g, 0, none⟩) (m + 1) cap) := hbk.cell 0; have d2 := hbk.free 0; have HBK := Lib.hid hbk; clear hg6 hbk)
    go_end0
    have h6 := HG.out.own
    have hne6 := own_far h6 HBK.out (by decide)
    have hoS : Only (One b) w6 (w6.setCell ⟨b, 0, none⟩ (.slice (some ⟨g6, 0, none⟩) (m + 1 + 1) cap6)) := (Only.refl _ _).setCell (p := ⟨b, 0, none⟩) (.inl (One.self b)) _
    refine ⟨rfl, ⟨_, HBK.out.set 0 _, ?_, HB.out.2.2.1⟩, (((Only.refl _ w).alloc _).then (Only.of_grown HG.out.grown fun k hk => .inl (own_block HB.out.2.1 k hk).1)).setCell (p := ⟨b, 0, none⟩) (.inl HB.out.2.2.1) _⟩
    rw [HT2.out]
    have e1 : (pre ++ [x] ++ [p]).length = m + 1 + 1 := by simp [HM.out]
    have e2 : IC (pre ++ [x] ++ [p]) = IC (pre ++ [x]) ++ IC [p] := by simp [IC]
    rw [e1, e2]
    exact own_only h6 hoS fun k hk hS => hne6 (by rw [hk, show k = b from hS])

/-! ## The walk over the events -/
abbrev PhS := List Int × Bool × Bool
def phStepE (e : Ev) (last : Bool) (nk : Int) (s : PhS) : Option PhS :=
  if e.kind = 1 ∨ e.kind = 2 then some s
  else if e.kind = 3 then some (if s.1.getLast? = some 2 ∧ s.2.1 = false then turnP s.1 1 else s.1, s.2)
  else if 4 ≤ e.kind ∧ e.kind ≤ 7 then
    if s.2.2 = true then none
    else if e.kind = 4 ∨ (e.kind = 5 ∧ e.why = 7) then some (turnP s.1 2, decide (e.kind = 4), s.2.2)
    else if e.kind = 5 ∧ e.why = 6 ∧ (last = true ∨ ¬ nk = 7) then some (turnP s.1 1, false, s.2.2)
    else if e.kind = 6 then some (turnP s.1 3, false, true)
    else if e.kind = 7 then some (turnP s.1 4, false, true)
    else some (s.1, false, s.2.2)
  else none
def phStep (l : List Ev) (k : Nat) (s : PhS) : Option PhS := phStepE (l.getD k ev0) (decide (k + 1 = l.length)) (l.getD (k + 1) ev0).kind s
def phTo (l : List Ev) : Nat → Option PhS
  | 0 => some ([1], false, false)
  | k + 1 => (phTo l k).bind (phStep l k)
theorem phTo_none {l : List Ev} {k : Nat} (h : phTo l k = none) : ∀ m, k ≤ m → phTo l m = none := by
  intro m hm
  induction m with
  | zero => obtain rfl : k = 0 := by omega
            exact h
  | succ m ih =>
    by_cases hk : k = m + 1
    · subst hk; exact h
    · show (phTo l m).bind (phStep l m) = none
      rw [ih (by omega)]
      rfl
/-- What Phases hands back. -/
def Phs (W : World) (base : Nat) (l : List Ev) (v : Value) (err : Int) : Prop :=
  (phTo l l.length = none ∧ v = .slice none 0 0 ∧ err = 270) ∨ ∃ out u o, phTo l l.length = some (out, u, o) ∧ W.ownsRow base 3 1 v out.length (IC out) ∧ err = 0
theorem turn_form (pre : List Int) (x p : Int) : ∃ pre' x', turnP (pre ++ [x]) p = pre' ++ [x'] ∧ pre'.length ≤ pre.length + 1 := by
  unfold turnP
  split
  · exact ⟨pre, x, rfl, by omega⟩
  · exact ⟨pre ++ [x], p, rfl, by simp⟩
theorem PhAt.only {W W' : World} {b base : Nat} {out : List Int} (h : PhAt W b base out) (ho : Only Nil W W') : PhAt W' b base out := by
  obtain ⟨v, h1, h2, h3⟩ := h
  exact ⟨v, ho.blk h1 id, own_only h2 ho fun _ _ => id, h3⟩
set_option maxHeartbeats 6400000 in
set_option maxRecDepth 100000 in
theorem phases_any (v : Value) (l : List Ev) (w : World) (hv : Evs w v l) (hn : l.length ≤ 100000000000) :
    Calls Try.prog 16 #[v] w fun r w' => (∃ v' y, r = .returned (.tuple #[v', .int .i64 y]) ∧ Phs w' w.heap.size l v' y) ∧ Only Nil w w' := by
  have hmf : ∀ (fn : Fn) (first cap : Array Value) (w : World), (Instr.makeFunc fn first cap).run Try.prog w = .ok (.func fn first cap) w := fun _ _ _ _ => rfl
  obtain ⟨A, cp, rfl, hcp, hrow⟩ := hv
  have hloop : ∀ k, k < l.length → ∃ ga oa, A = some ⟨ga, oa, none⟩ ∧ ∀ W, Only Nil w W → (∀ i, i < 7 → W.cell? ⟨ga, oa + k * 7 + i, none⟩ = (l.getD k ev0).cells[i]?) ∧ (k + 1 < l.length → W.cell? ⟨ga, oa + (k + 1) * 7, none⟩ = some (.int .i64 (l.getD (k + 1) ev0).kind)) := fun k hk => by
    obtain ⟨g, o, rfl, hcell⟩ := hrow (by omega)
    refine ⟨g, o, rfl, fun W ho => ⟨fun i hi => ?_, fun h1 => ?_⟩⟩
    · have h1 := (hcell k hk).1 i hi
      have hi7 : i < (l.getD k ev0).cells.length := hi
      rw [List.getElem?_eq_getElem hi7] at h1 ⊢
      exact ho.cell h1 id
    · exact ho.cell ((hcell (k + 1) h1).1 0 (by omega)) id
  have HLp := Lib.hid hloop
  clear hrow hcp hloop
  go_enter Try.func16, Try.ntmps16
  go_wp2
  have HS := Lib.hid (show PhAt ((w.alloc (.cells #[.int .i64 1] 3)).alloc (.cells #[.slice (some ⟨w.heap.size, 0, none⟩) 1 1] 49)) (w.heap.size + 1) w.heap.size [1] from by
    refine ⟨.slice (some ⟨w.heap.size, 0, none⟩) 1 1, ?_, ⟨rfl, .inr ⟨w.heap.size, 1, #[.int .i64 1], rfl, Nat.le_refl _, ?_, Nat.le_refl _, by unfold maxLen; omega, rfl, rfl⟩⟩, by omega⟩
    · have := Blk.new (w.alloc (.cells #[.int .i64 1] 3)) 49 [.slice (some ⟨w.heap.size, 0, none⟩) 1 1]
      rw [World.size_alloc] at this
      exact this
    · exact (Blk.new w 3 [.int .i64 1]).alloc _)
  go_loopw [5, 6, 14] (fun u o i wr => ∃ k : Nat, k ≤ l.length ∧ i = .int .i64 (k : Nat) ∧ ∃ pre x ub ob, phTo l k = some (pre ++ [x], ub, ob) ∧ pre.length ≤ k ∧ u = .bool ub ∧ o = .bool ob ∧ PhAt wr (w.heap.size + 1) w.heap.size (pre ++ [x]) ∧ Only Nil w wr) (fun _ _ i _ => l.length - (intOf i).toNat)
  case atStart => exact ⟨0, Nat.zero_le _, rfl, [], 1, false, false, rfl, Nat.le_refl _, rfl, rfl, HS.out, ((Only.refl _ _).alloc _).alloc _⟩
  case round =>
    clear HS
    obtain ⟨k, hk, rfl, pre, x, ub, ob, hph, hpl, rfl, rfl, hP, hO⟩ := hrel
    by_cases hlt : k < l.length
    · obtain ⟨ga, oa, rfl, hcell⟩ := HLp.out k hlt
      obtain ⟨hcl, hnx⟩ := hcell wr hO
      have HN := Lib.hid (show phTo l (k + 1) = phStepE (l.getD k ev0) (decide (k + 1 = l.length)) (l.getD (k + 1) ev0).kind (pre ++ [x], ub, ob) by show (phTo l k).bind (phStep l k) = _; rw [hph]; rfl)
      have HX := Lib.hid hcell
      generalize l.getD k ev0 = e at *
      generalize (l.getD (k + 1) ev0).kind = nk at *
      obtain ⟨kind, time, ip, till, why, len, a, cap, data⟩ := e
      have q0 : wr.cell? ⟨ga, oa + k * 7, none⟩ = some (.int .i64 kind) := hcl 0 (by omega)
      have q1 : wr.cell? ⟨ga, oa + k * 7 + 1, none⟩ = some (.int .i64 time) := hcl 1 (by omega)
      have q2 : wr.cell? ⟨ga, oa + k * 7 + 2, none⟩ = some (.int .u32 ip) := hcl 2 (by omega)
      have q3 : wr.cell? ⟨ga, oa + k * 7 + 3, none⟩ = some (.int .i64 till) := hcl 3 (by omega)
      have q4 : wr.cell? ⟨ga, oa + k * 7 + 4, none⟩ = some (.int .i64 why) := hcl 4 (by omega)
      have q5 : wr.cell? ⟨ga, oa + k * 7 + 5, none⟩ = some (.int .i64 len) := hcl 5 (by omega)
      have q6 : wr.cell? ⟨ga, oa + k * 7 + 6, none⟩ = some (.slice a data.length cap) := hcl 6 (by omega)
      have HR := Lib.hid (And.intro hP hO)
      have HXN := Lib.hid (show ∀ W, Only Nil w W → k + 1 < l.length → W.cell? ⟨ga, oa + (k + 1) * 7, none⟩ = some (.int .i64 nk) from fun W ho => (HX.out W ho).2)
      clear hcl hcell HLp hP hO hnx HX hph
      go_upto_region 7 with fail
      obtain ⟨b, hb⟩ : ∃ b, wr.heap.size = b := ⟨_, rfl⟩
      refine wp_gen (fun W => (PhAt W (w.heap.size + 1) w.heap.size (pre ++ [x]) ∧ Only Nil w W) ∧ Blk W b 48 [.int .i64 kind, .int .i64 time, .int .u32 ip, .int .i64 till, .int .i64 why, .int .i64 len, .slice a data.length cap])
        ⟨⟨HR.out.1.only ((Only.refl Nil _).alloc _), HR.out.2.alloc _⟩, hb ▸ Blk.new wr _ _⟩ ?_
      rw [hb]
      clear HR hb q0 q1 q2 q3 q4 q5 q6
      intro w4 h4
      have q0 : w4.cell? ⟨b, 0, none⟩ = some (.int .i64 kind) := h4.2.cell 0
      have q4 : w4.cell? ⟨b, 4, none⟩ = some (.int .i64 why) := h4.2.cell 4
      have H4 := Lib.hid h4.1
      clear h4
      by_cases k1 : kind = 1
      · subst k1
        have hs := Lib.hid (show phTo l (k + 1) = some (pre ++ [x], ub, ob) by rw [HN.out]; simp [phStepE])
        go_wp2
        go_roundw
        case rel => exact ⟨k + 1, by omega, by go_num, pre, x, ub, ob, hs.out, by omega, rfl, rfl, H4.out.1, H4.out.2⟩
        case measure => simp [intOf]; omega
      by_cases k2 : kind = 2
      · subst k2
        have hs := Lib.hid (show phTo l (k + 1) = some (pre ++ [x], ub, ob) by rw [HN.out]; simp [phStepE])
        go_wp2
        go_roundw
        case rel => exact ⟨k + 1, by omega, by go_num, pre, x, ub, ob, hs.out, by omega, rfl, rfl, H4.out.1, H4.out.2⟩
        case measure => simp [intOf]; omega
      by_cases k3 : kind = 3
      · subst k3
        obtain ⟨v, hB, hown, _⟩ := H4.out.1
        rw [List.length_append, List.length_singleton] at hown
        obtain ⟨g, cp2, rfl, _, _, _, hcl⟩ := own_form hown (by omega)
        have cb : w4.cell? ⟨w.heap.size + 1, 0, none⟩ = some (.slice (some ⟨g, 0, none⟩) (pre.length + 1) cp2) := hB.cell 0
        have cx : w4.cell? ⟨g, pre.length, none⟩ = some (.int .i64 x) := by
          rw [hcl pre.length (by omega)]
          simp [IC, List.getD]
        clear hB hown hcl
        by_cases x2 : x = 2
        · subst x2
          cases ub
          · have hs := Lib.hid (show phTo l (k + 1) = some (turnP (pre ++ [2]) 1, false, ob) by rw [HN.out]; simp [phStepE])
            go_wp2_with (go_at_call 34; refine (turn_any (w.heap.size + 1) w.heap.size pre 2 1 _ H4.out.1 (by omega) H4.out.2.size).mono ?_; rintro r w5 ⟨rfl, hp5, ho5⟩)
            obtain ⟨pre', x', ht, hl'⟩ := turn_form pre 2 1
            rw [ht] at hp5
            have HT := Lib.hid (hs.out.trans (by rw [ht]))
            have HP := Lib.hid (And.intro hp5 (H4.out.2.trans ho5 fun i hi => .inr hi))
            clear hp5 ho5 ht
            go_wp2
            go_roundw
            case rel => exact ⟨k + 1, by omega, by go_num, pre', x', false, ob, HT.out, by omega, rfl, rfl, HP.out.1, HP.out.2⟩
            case measure => simp [intOf]; omega
          · have hs := Lib.hid (show phTo l (k + 1) = some (pre ++ [2], true, ob) by rw [HN.out]; simp [phStepE])
            go_wp2
            go_roundw
            case rel => exact ⟨k + 1, by omega, by go_num, pre, 2, true, ob, hs.out, by omega, rfl, rfl, H4.out.1, H4.out.2⟩
            case measure => simp [intOf]; omega
        · have x2b : (x == 2) = false := by simp [x2]
          have hs := Lib.hid (show phTo l (k + 1) = some (pre ++ [x], ub, ob) by rw [HN.out]; simp [phStepE, x2])
          clear x2
          go_wp2
          go_roundw
          case rel => exact ⟨k + 1, by omega, by go_num, pre, x, ub, ob, hs.out, by omega, rfl, rfl, H4.out.1, H4.out.2⟩
          case measure => simp [intOf]; omega
      by_cases k4 : kind = 4
      · subst k4
        cases ob
        · have hs := Lib.hid (show phTo l (k + 1) = some (turnP (pre ++ [x]) 2, true, false) by rw [HN.out]; simp [phStepE])
          go_wp2_with (go_at_call 34; refine (turn_any (w.heap.size + 1) w.heap.size pre x 2 _ H4.out.1 (by omega) H4.out.2.size).mono ?_; rintro r w5 ⟨rfl, hp5, ho5⟩)
          obtain ⟨pre', x', ht, hl'⟩ := turn_form pre x 2
          rw [ht] at hp5
          have HT := Lib.hid (hs.out.trans (by rw [ht]))
          have HP := Lib.hid (And.intro hp5 (H4.out.2.trans ho5 fun i hi => .inr hi))
          clear hp5 ho5 ht
          go_wp2
          go_roundw
          case rel => exact ⟨k + 1, by omega, by go_num, pre', x', true, false, HT.out, by omega, rfl, rfl, HP.out.1, HP.out.2⟩
          case measure => simp [intOf]; omega
        · have hs := Lib.hid (show phTo l (k + 1) = none by rw [HN.out]; simp [phStepE])
          have HF := Lib.hid (show Phs w4 w.heap.size l (.slice none 0 0) 270 from .inl ⟨phTo_none hs.out _ (by omega), rfl, rfl⟩)
          go_wp2
          go_ret2
          exact ⟨⟨_, _, rfl, HF.out⟩, H4.out.2⟩
      by_cases k5 : kind = 5
      · subst k5
        cases ob
        · by_cases y7 : why = 7
          · subst y7
            have hs := Lib.hid (show phTo l (k + 1) = some (turnP (pre ++ [x]) 2, false, false) by rw [HN.out]; simp [phStepE])
            go_wp2_with (go_at_call 34; refine (turn_any (w.heap.size + 1) w.heap.size pre x 2 _ H4.out.1 (by omega) H4.out.2.size).mono ?_; rintro r w5 ⟨rfl, hp5, ho5⟩)
            obtain ⟨pre', x', ht, hl'⟩ := turn_form pre x 2
            rw [ht] at hp5
            have HT := Lib.hid (hs.out.trans (by rw [ht]))
            have HP := Lib.hid (And.intro hp5 (H4.out.2.trans ho5 fun i hi => .inr hi))
            clear hp5 ho5 ht
            go_wp2
            go_roundw
            case rel => exact ⟨k + 1, by omega, by go_num, pre', x', false, false, HT.out, by omega, rfl, rfl, HP.out.1, HP.out.2⟩
            case measure => simp [intOf]; omega
          have y7b : (why == 7) = false := by simp [y7]
          by_cases y6 : why = 6
          · subst y6
            by_cases hl1 : k + 1 = l.length
            · have hl1b : ((k : Int) + 1 == (l.length : Int)) = true := by simp; omega
              have hs := Lib.hid (show phTo l (k + 1) = some (turnP (pre ++ [x]) 1, false, false) by rw [HN.out]; simp [phStepE, hl1])
              clear hl1
              go_wp2_with (go_at_call 34; refine (turn_any (w.heap.size + 1) w.heap.size pre x 1 _ H4.out.1 (by omega) H4.out.2.size).mono ?_; rintro r w5 ⟨rfl, hp5, ho5⟩)
              obtain ⟨pre', x', ht, hl'⟩ := turn_form pre x 1
              rw [ht] at hp5
              have HT := Lib.hid (hs.out.trans (by rw [ht]))
              have HP := Lib.hid (And.intro hp5 (H4.out.2.trans ho5 fun i hi => .inr hi))
              clear hp5 ho5 ht
              go_wp2
              go_roundw
              case rel => exact ⟨k + 1, by omega, by go_num, pre', x', false, false, HT.out, by omega, rfl, rfl, HP.out.1, HP.out.2⟩
              case measure => simp [intOf]; omega
            have hl1b : ((k : Int) + 1 == (l.length : Int)) = false := by simp; omega
            have hlb : (k : Int) + 1 < (l.length : Int) := by omega
            have qn := HXN.out w4 H4.out.2 (by omega)
            by_cases h7 : nk = 7
            · have hs := Lib.hid (show phTo l (k + 1) = some (pre ++ [x], false, false) by rw [HN.out]; simp [phStepE, hl1, h7])
              have h7b : (nk != 7) = false := by simp [h7]
              clear h7
              go_wp2
              go_roundw
              case rel => exact ⟨k + 1, by omega, by go_num, pre, x, false, false, hs.out, by omega, rfl, rfl, H4.out.1, H4.out.2⟩
              case measure => simp [intOf]; omega
            · have hs := Lib.hid (show phTo l (k + 1) = some (turnP (pre ++ [x]) 1, false, false) by rw [HN.out]; simp [phStepE, hl1, h7])
              have h7b : (nk != 7) = true := by simp [h7]
              clear h7
              go_wp2_with (go_at_call 34; refine (turn_any (w.heap.size + 1) w.heap.size pre x 1 _ H4.out.1 (by omega) H4.out.2.size).mono ?_; rintro r w5 ⟨rfl, hp5, ho5⟩)
              obtain ⟨pre', x', ht, hl'⟩ := turn_form pre x 1
              rw [ht] at hp5
              have HT := Lib.hid (hs.out.trans (by rw [ht]))
              have HP := Lib.hid (And.intro hp5 (H4.out.2.trans ho5 fun i hi => .inr hi))
              clear hp5 ho5 ht
              go_wp2
              go_roundw
              case rel => exact ⟨k + 1, by omega, by go_num, pre', x', false, false, HT.out, by omega, rfl, rfl, HP.out.1, HP.out.2⟩
              case measure => simp [intOf]; omega
          · have hs := Lib.hid (show phTo l (k + 1) = some (pre ++ [x], false, false) by rw [HN.out]; simp [phStepE, y7, y6])
            have y6b : (why == 6) = false := by simp [y6]
            clear y6 y7
            go_wp2
            go_roundw
            case rel => exact ⟨k + 1, by omega, by go_num, pre, x, false, false, hs.out, by omega, rfl, rfl, H4.out.1, H4.out.2⟩
            case measure => simp [intOf]; omega
        · have hs := Lib.hid (show phTo l (k + 1) = none by rw [HN.out]; simp [phStepE])
          have HF := Lib.hid (show Phs w4 w.heap.size l (.slice none 0 0) 270 from .inl ⟨phTo_none hs.out _ (by omega), rfl, rfl⟩)
          go_wp2
          go_ret2
          exact ⟨⟨_, _, rfl, HF.out⟩, H4.out.2⟩
      by_cases k6 : kind = 6
      · subst k6
        cases ob
        · have hs := Lib.hid (show phTo l (k + 1) = some (turnP (pre ++ [x]) 3, false, true) by rw [HN.out]; simp [phStepE])
          go_wp2_with (go_at_call 34; refine (turn_any (w.heap.size + 1) w.heap.size pre x 3 _ H4.out.1 (by omega) H4.out.2.size).mono ?_; rintro r w5 ⟨rfl, hp5, ho5⟩)
          obtain ⟨pre', x', ht, hl'⟩ := turn_form pre x 3
          rw [ht] at hp5
          have HT := Lib.hid (hs.out.trans (by rw [ht]))
          have HP := Lib.hid (And.intro hp5 (H4.out.2.trans ho5 fun i hi => .inr hi))
          clear hp5 ho5 ht
          go_wp2
          go_roundw
          case rel => exact ⟨k + 1, by omega, by go_num, pre', x', false, true, HT.out, by omega, rfl, rfl, HP.out.1, HP.out.2⟩
          case measure => simp [intOf]; omega
        · have hs := Lib.hid (show phTo l (k + 1) = none by rw [HN.out]; simp [phStepE])
          have HF := Lib.hid (show Phs w4 w.heap.size l (.slice none 0 0) 270 from .inl ⟨phTo_none hs.out _ (by omega), rfl, rfl⟩)
          go_wp2
          go_ret2
          exact ⟨⟨_, _, rfl, HF.out⟩, H4.out.2⟩
      by_cases k7 : kind = 7
      · subst k7
        cases ob
        · have hs := Lib.hid (show phTo l (k + 1) = some (turnP (pre ++ [x]) 4, false, true) by rw [HN.out]; simp [phStepE])
          go_wp2_with (go_at_call 34; refine (turn_any (w.heap.size + 1) w.heap.size pre x 4 _ H4.out.1 (by omega) H4.out.2.size).mono ?_; rintro r w5 ⟨rfl, hp5, ho5⟩)
          obtain ⟨pre', x', ht, hl'⟩ := turn_form pre x 4
          rw [ht] at hp5
          have HT := Lib.hid (hs.out.trans (by rw [ht]))
          have HP := Lib.hid (And.intro hp5 (H4.out.2.trans ho5 fun i hi => .inr hi))
          clear hp5 ho5 ht
          go_wp2
          go_roundw
          case rel => exact ⟨k + 1, by omega, by go_num, pre', x', false, true, HT.out, by omega, rfl, rfl, HP.out.1, HP.out.2⟩
          case measure => simp [intOf]; omega
        · have hs := Lib.hid (show phTo l (k + 1) = none by rw [HN.out]; simp [phStepE])
          have HF := Lib.hid (show Phs w4 w.heap.size l (.slice none 0 0) 270 from .inl ⟨phTo_none hs.out _ (by omega), rfl, rfl⟩)
          go_wp2
          go_ret2
          exact ⟨⟨_, _, rfl, HF.out⟩, H4.out.2⟩
      have hs := Lib.hid (show phTo l (k + 1) = none by rw [HN.out]; simp [phStepE, k1, k2, k3]; omega)
      have k1b : (kind == 1) = false := by simp [k1]
      have k2b : (kind == 2) = false := by simp [k2]
      have k3b : (kind == 3) = false := by simp [k3]
      have k4b : (kind == 4) = false := by simp [k4]
      have k5b : (kind == 5) = false := by simp [k5]
      have k6b : (kind == 6) = false := by simp [k6]
      have k7b : (kind == 7) = false := by simp [k7]
      clear k1 k2 k3 k4 k5 k6 k7
      have HF := Lib.hid (show Phs w4 w.heap.size l (.slice none 0 0) 270 from .inl ⟨phTo_none hs.out _ (by omega), rfl, rfl⟩)
      go_wp2
      go_ret2
      exact ⟨⟨_, _, rfl, HF.out⟩, H4.out.2⟩
    · have hkn : k = l.length := by omega
      subst hkn
      obtain ⟨v, hB, hown, _⟩ := hP
      have cb : wr.cell? ⟨w.heap.size + 1, 0, none⟩ = some v := hB.cell 0
      have HF := Lib.hid (show Phs wr w.heap.size l v 0 from .inr ⟨_, ub, ob, hph, hown, rfl⟩)
      have HO := Lib.hid hO
      clear hB hown hph hO
      go_wp2
      go_ret2
      exact ⟨⟨_, _, rfl, HF.out⟩, HO.out⟩
end Go.Proofs.Ythoaeolohnalnaa
