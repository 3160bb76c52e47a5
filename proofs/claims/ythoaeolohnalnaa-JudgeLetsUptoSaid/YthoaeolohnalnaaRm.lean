/-
  The reference's phases of a trace.
-/
import Derived.Test.YthoaeolohnalnaaRd
import Derived.Test.YthoaeolohnalnaaJk
import Derived.Deep.DeepCutAuto
import Derived.Deep.CutBlock
namespace Go.Proofs.Ythoaeolohnalnaa
open Go.RowKit

def badP (kind : Int) (ov : Bool) : Bool := decide (kind < 1) || (decide (7 < kind) || (ov && decide (4 ≤ kind)))
def phBad (l : List Ev) (k : Nat) : Bool := badP (l.getD k ev0).kind (overR (l.take k))
def upR (l : List Ev) (k : Nat) : Bool := decide (k + 1 < l.length) && decide ((l.getD (k + 1) ev0).kind = 7)
def phaseP (kind why : Int) (up un : Bool) (now : Int) : Int :=
  if kind = 4 ∨ (kind = 5 ∧ why = 7) then 2 else if kind = 6 then 3 else if kind = 7 then 4 else if kind = 5 ∧ why = 6 ∧ up = false then 1 else if kind = 3 ∧ now = 2 ∧ un = false then 1 else now
def phR (l : List Ev) : Nat → List Int
  | 0 => [1]
  | k + 1 => turnP (phR l k) (phaseP (l.getD k ev0).kind (l.getD k ev0).why (upR l k) (underR (l.take k)) ((phR l k).getLast?.getD 0))
def PhsR (W : World) (base : Nat) (l : List Ev) (v : Value) (err : Int) : Prop :=
  ((∃ k, k < l.length ∧ phBad l k = true) ∧ v = .slice none 0 0 ∧ err = 270) ∨ ((∀ k, k < l.length → phBad l k = false) ∧ W.ownsRow base 3 1 v (phR l l.length).length (IC (phR l l.length)) ∧ err = 0)
set_option maxHeartbeats 6400000 in
set_option maxRecDepth 100000 in
theorem rphases_any (v : Value) (l : List Ev) (w : World) (hv : Evs w v l) (hn : l.length ≤ 100000000000) :
    Calls Try.prog 20 #[v] w fun r w' => (∃ v' y, r = .returned (.tuple #[v', .int .i64 y]) ∧ PhsR w' w.heap.size l v' y) ∧ Only Nil w w' := by
  obtain ⟨A, c, rfl, hc⟩ := hv.form
  have HV := Lib.hid (show ∀ W, Only Nil w W → Evs W (.slice A l.length c) l from fun W ho => hv.nil ho)
  clear hv
  go_enter Try.func20, Try.ntmps20
  go_upto_region 2 with fail
  go_loopw [4] (fun i wr => ∃ k : Nat, k ≤ l.length ∧ i = .int .i64 (k : Nat) ∧ (∀ j, j < k → phBad l j = false) ∧ w = wr) (fun i _ => l.length - (intOf i).toNat)
  case atStart => exact ⟨0, Nat.zero_le _, rfl, fun j hj => absurd hj (by omega), rfl⟩
  case round =>
    obtain ⟨k, hk, rfl, hall, rfl⟩ := hrel
    have HA := Lib.hid hall
    clear hall
    by_cases hlt : k < l.length
    · have g1 : (k : Int) < (l.length : Int) := by omega
      obtain ⟨g, o, rfl, hcell, _⟩ := (HV.out w (Only.refl _ _)).at hlt
      have hsl := fun W => slice_evs (A := some ⟨g, o, none⟩) (m := l.length) (cap := c) (n := k) (by omega) W
      have hlen : (l.take k).length = k := by rw [List.length_take]; omega
      have hcall := over_any (.slice (some ⟨g, o, none⟩) k c) (l.take k) w (evs_take (HV.out w (Only.refl _ _)) (by omega)) (by omega)
      have q0 : w.cell? ⟨g, o + k * 7, none⟩ = some (.int .i64 (l.getD k ev0).kind) := hcell 0 (by omega)
      have HF := Lib.hid (show phBad l k = badP (l.getD k ev0).kind (overR (l.take k)) from rfl)
      have HNX := Lib.hid (show phBad l k = false → ∀ j, j < k + 1 → phBad l j = false from fun h0 j hj => by
        by_cases hjk : j = k
        · rw [hjk]; exact h0
        · exact HA.out j (by omega))
      generalize (l.getD k ev0).kind = kind at *
      generalize overR (l.take k) = ov at *
      clear hcell hlen
      go_upto_region 5 with fail
      go_upto_region 6 with (go_at_call 37; refine hcall.mono ?_; rintro r w' ⟨rfl, rfl⟩)
      clear hcall hsl q0
      by_cases k0 : kind < 1
      · have HB := Lib.hid (show phBad l k = true by rw [HF.out]; simp [badP, k0])
        have k1 : ¬ 7 < kind := by omega
        clear HF HNX
        go_wp2
        go_ret2
        exact ⟨⟨_, _, rfl, .inl ⟨⟨k, hlt, HB.out⟩, rfl, rfl⟩⟩, Only.refl _ _⟩
      by_cases k7 : 7 < kind
      · have HB := Lib.hid (show phBad l k = true by rw [HF.out]; simp [badP, k7])
        clear HF HNX
        go_wp2
        go_ret2
        exact ⟨⟨_, _, rfl, .inl ⟨⟨k, hlt, HB.out⟩, rfl, rfl⟩⟩, Only.refl _ _⟩
      cases ov
      · have HG := Lib.hid (HNX.out (show phBad l k = false by rw [HF.out]; simp [badP]; omega))
        clear HF HNX
        go_wp2
        go_roundw
        case rel => exact ⟨k + 1, by omega, by go_num, HG.out, trivial⟩
        case measure => simp [intOf]; omega
      by_cases k4 : 4 ≤ kind
      · have HB := Lib.hid (show phBad l k = true by rw [HF.out]; simp [badP, k4])
        clear HF HNX
        have hk4 : kind = 4 ∨ kind = 5 ∨ kind = 6 ∨ kind = 7 := by omega
        clear k4 k0 k7
        rcases hk4 with rfl | rfl | rfl | rfl
        all_goals
          go_wp2
          go_ret2
          exact ⟨⟨_, _, rfl, .inl ⟨⟨k, hlt, HB.out⟩, rfl, rfl⟩⟩, Only.refl _ _⟩
      · have HG := Lib.hid (HNX.out (show phBad l k = false by rw [HF.out]; simp [badP]; omega))
        clear HF HNX
        have hk4 : kind = 1 ∨ kind = 2 ∨ kind = 3 := by omega
        clear k4 k0 k7
        rcases hk4 with rfl | rfl | rfl
        all_goals
          go_wp2
          go_roundw
          case rel => exact ⟨k + 1, by omega, by go_num, HG.out, trivial⟩
          case measure => simp [intOf]; omega
    · obtain rfl : k = l.length := by omega
      have g1 : ¬ (l.length : Int) < (l.length : Int) := by omega
      go_upto_region 10 with fail
      have HS := Lib.hid (show (w.alloc (.cells #[.int .i64 1] 3)).ownsRow w.heap.size 3 1 (.slice (some ⟨w.heap.size, 0, none⟩) 1 1) 1 (IC [1]) from
        ⟨rfl, .inr ⟨w.heap.size, 1, #[.int .i64 1], rfl, Nat.le_refl _, Blk.new w 3 [.int .i64 1], Nat.le_refl _, by unfold maxLen; omega, rfl, rfl⟩⟩)
      clear g1 hk hlt
      go_loopw [7, 8] (fun v i wx => ∃ (k : Nat) (pre : List Int) (x : Int), k ≤ l.length ∧ i = .int .i64 (k : Nat) ∧ phR l k = pre ++ [x] ∧ pre.length ≤ k ∧ wx.ownsRow w.heap.size 3 1 v (pre.length + 1) (IC (pre ++ [x])) ∧ Only Nil w wx) (fun _ i _ => l.length - (intOf i).toNat)
      case atStart => exact ⟨0, [], 1, Nat.zero_le _, rfl, rfl, Nat.le_refl _, HS.out, (Only.refl _ _).alloc _⟩
      case round =>
        clear HS
        obtain ⟨k, pre, x, hk, rfl, hph, hpl, hown, hO⟩ := hrel
        obtain ⟨gv, cv, rfl, hcv, hgv, hgv2, hcellv⟩ := own_form hown (by omega)
        have HOwn := Lib.hid hown
        have HO := Lib.hid hO
        have HPH := Lib.hid hph
        clear hown hO hph
        by_cases hlt : k < l.length
        · have g1 : (k : Int) < (l.length : Int) := by omega
          have cx : wr.cell? ⟨gv, pre.length, none⟩ = some (.int .i64 x) := by
            rw [hcellv pre.length (by omega)]
            simp [IC, List.getD]
          clear hcellv
          obtain ⟨g, o, rfl, hcell, _⟩ := (HV.out _ HO.out).at hlt
          have hsl := fun W => slice_evs (A := some ⟨g, o, none⟩) (m := l.length) (cap := c) (n := k) (by omega) W
          have hcall := fun W (ho : Only Nil w W) => under_any (.slice (some ⟨g, o, none⟩) k c) (l.take k) W (evs_take (HV.out W ho) (by omega)) (by rw [List.length_take]; omega)
          have HCall := Lib.hid hcall
          have HXN := Lib.hid (show ∀ W, Only Nil w W → k + 1 < l.length → W.cell? ⟨g, o + (k + 1) * 7, none⟩ = some (.int .i64 (l.getD (k + 1) ev0).kind) from fun W ho h1 => by
            obtain ⟨g', o', hA, hc', _⟩ := (HV.out W ho).at h1
            injection hA with hA
            injection hA with h1 h2
            subst h1 h2
            exact hc' 0 (by omega))
          have HN := Lib.hid (show phR l (k + 1) = turnP (pre ++ [x]) (phaseP (l.getD k ev0).kind (l.getD k ev0).why (upR l k) (underR (l.take k)) x) by
            show turnP (phR l k) (phaseP (l.getD k ev0).kind (l.getD k ev0).why (upR l k) (underR (l.take k)) ((phR l k).getLast?.getD 0)) = _
            rw [HPH.out]
            simp)
          have HU := Lib.hid (show upR l k = (decide (k + 1 < l.length) && decide ((l.getD (k + 1) ev0).kind = 7)) from rfl)
          generalize (l.getD (k + 1) ev0).kind = nk at *
          generalize upR l k = up at *
          generalize underR (l.take k) = un at *
          generalize l.getD k ev0 = e at *
          obtain ⟨kind, time, ip, till, why, len, a, cap, data⟩ := e
          have q0 : wr.cell? ⟨g, o + k * 7, none⟩ = some (.int .i64 kind) := hcell 0 (by omega)
          have q1 : wr.cell? ⟨g, o + k * 7 + 1, none⟩ = some (.int .i64 time) := hcell 1 (by omega)
          have q2 : wr.cell? ⟨g, o + k * 7 + 2, none⟩ = some (.int .u32 ip) := hcell 2 (by omega)
          have q3 : wr.cell? ⟨g, o + k * 7 + 3, none⟩ = some (.int .i64 till) := hcell 3 (by omega)
          have q4 : wr.cell? ⟨g, o + k * 7 + 4, none⟩ = some (.int .i64 why) := hcell 4 (by omega)
          have q5 : wr.cell? ⟨g, o + k * 7 + 5, none⟩ = some (.int .i64 len) := hcell 5 (by omega)
          have q6 : wr.cell? ⟨g, o + k * 7 + 6, none⟩ = some (.slice a data.length cap) := hcell 6 (by omega)
          clear hcell hcall HPH
          go_upto_region 15 with fail
          obtain ⟨b, hb⟩ : ∃ b, wr.heap.size = b := ⟨_, rfl⟩
          refine wp_gen (fun W => (W.ownsRow w.heap.size 3 1 (.slice (some ⟨gv, 0, none⟩) (pre.length + 1) cv) (pre.length + 1) (IC (pre ++ [x])) ∧ Only Nil w W) ∧ Blk W b 48 [.int .i64 kind, .int .i64 time, .int .u32 ip, .int .i64 till, .int .i64 why, .int .i64 len, .slice a data.length cap])
            ⟨⟨own_only HOwn.out ((Only.refl Nil _).alloc _) fun _ _ => id, HO.out.alloc _⟩, hb ▸ Blk.new wr _ _⟩ ?_
          rw [hb]
          clear HO HOwn hb cx q0 q1 q2 q3 q4 q5 q6
          intro w4 h4
          have q0 : w4.cell? ⟨b, 0, none⟩ = some (.int .i64 kind) := h4.2.cell 0
          have q4 : w4.cell? ⟨b, 4, none⟩ = some (.int .i64 why) := h4.2.cell 4
          have H4 := Lib.hid h4.1
          clear h4
          go_cut [12] (fun t wx => t = .bool up ∧ w4 = wx)
          case first =>
            by_cases hl1 : k + 1 < l.length
            · have qn := HXN.out _ H4.out.2 hl1
              have g2 : (k : Int) + 1 < (l.length : Int) := by omega
              by_cases h7 : nk = 7
              · have h7b : (nk == 7) = true := by simp [h7]
                obtain rfl : up = true := by rw [HU.out]; simp [hl1, h7]
                clear h7 hl1
                go_wp2_with fail
                go_meet
                exact ⟨rfl, rfl⟩
              · have h7b : (nk == 7) = false := by simp [h7]
                obtain rfl : up = false := by rw [HU.out]; simp [h7]
                clear h7 hl1
                go_wp2_with fail
                go_meet
                exact ⟨rfl, rfl⟩
            · have g2 : ¬ (k : Int) + 1 < (l.length : Int) := by omega
              obtain rfl : up = false := by rw [HU.out]; simp [hl1]
              clear hl1
              go_wp2_with fail
              go_meet
              exact ⟨rfl, rfl⟩
          case rest =>
            obtain ⟨rfl, rfl⟩ := hcut
            clear HXN HU
            go_upto_block 4 with (go_at_call 38; refine (HCall.out _ H4.out.2).mono ?_; rintro r w' ⟨rfl, rfl⟩)
            clear HCall hsl
            obtain ⟨p, hp⟩ : ∃ p, phaseP kind why up un x = p := ⟨_, rfl⟩
            rw [hp] at HN
            have HP := Lib.hid hp
            clear hp
            go_cut [10] (fun t wx => t = .int .i64 p ∧ w4 = wx)
            case first =>
              by_cases k4 : kind = 4
              · subst k4
                obtain rfl : p = 2 := by rw [← HP.out]; simp [phaseP]
                clear HP
                go_wp2_with fail
                go_meet
                exact ⟨rfl, rfl⟩
              by_cases k6 : kind = 6
              · subst k6
                obtain rfl : p = 3 := by rw [← HP.out]; simp [phaseP]
                clear HP
                go_wp2_with fail
                go_meet
                exact ⟨rfl, rfl⟩
              by_cases k7 : kind = 7
              · subst k7
                obtain rfl : p = 4 := by rw [← HP.out]; simp [phaseP]
                clear HP
                go_wp2_with fail
                go_meet
                exact ⟨rfl, rfl⟩
              by_cases k5 : kind = 5
              · subst k5
                by_cases y7 : why = 7
                · subst y7
                  obtain rfl : p = 2 := by rw [← HP.out]; simp [phaseP]
                  clear HP
                  go_wp2_with fail
                  go_meet
                  exact ⟨rfl, rfl⟩
                have y7b : (why == 7) = false := by simp [y7]
                by_cases y6 : why = 6
                · subst y6
                  cases up
                  · obtain rfl : p = 1 := by rw [← HP.out]; simp [phaseP]
                    clear HP y7
                    go_wp2_with fail
                    go_meet
                    exact ⟨rfl, rfl⟩
                  · obtain rfl : p = x := by rw [← HP.out]; simp [phaseP]
                    clear HP y7
                    go_wp2_with fail
                    go_meet
                    exact ⟨rfl, rfl⟩
                have y6b : (why == 6) = false := by simp [y6]
                obtain rfl : p = x := by rw [← HP.out]; simp [phaseP, y6, y7]
                clear HP y6 y7
                go_wp2_with fail
                go_meet
                exact ⟨rfl, rfl⟩
              have k4b : (kind == 4) = false := by simp [k4]
              have k5b : (kind == 5) = false := by simp [k5]
              have k6b : (kind == 6) = false := by simp [k6]
              have k7b : (kind == 7) = false := by simp [k7]
              by_cases k3 : kind = 3
              · subst k3
                clear k4 k5 k6 k7
                by_cases x2 : x = 2
                · subst x2
                  cases un
                  · obtain rfl : p = 1 := by rw [← HP.out]; simp [phaseP]
                    clear HP
                    go_wp2_with fail
                    go_meet
                    exact ⟨rfl, rfl⟩
                  · obtain rfl : p = 2 := by rw [← HP.out]; simp [phaseP]
                    clear HP
                    go_wp2_with fail
                    go_meet
                    exact ⟨rfl, rfl⟩
                have x2b : (x == 2) = false := by simp [x2]
                obtain rfl : p = x := by rw [← HP.out]; simp [phaseP, x2]
                clear HP x2
                go_wp2_with fail
                go_meet
                exact ⟨rfl, rfl⟩
              have k3b : (kind == 3) = false := by simp [k3]
              obtain rfl : p = x := by rw [← HP.out]; simp [phaseP, k3, k4, k5, k6, k7]
              clear HP k3 k4 k5 k6 k7
              go_wp2_with fail
              go_meet
              exact ⟨rfl, rfl⟩
            case rest =>
              obtain ⟨rfl, rfl⟩ := hcut
              clear HP q0 q4
              by_cases hpx : p = x
              · subst hpx
                have hpb : (p != p) = false := by simp
                have HT := Lib.hid (show phR l (k + 1) = pre ++ [p] by rw [HN.out]; simp [turnP])
                go_wp2
                go_roundw
                case rel => exact ⟨k + 1, pre, p, by omega, by go_num, HT.out, by omega, H4.out.1, H4.out.2⟩
                case measure => simp [intOf]; omega
              · have hpb : (p != x) = true := by simp [hpx]
                have HT := Lib.hid (show phR l (k + 1) = pre ++ [x] ++ [p] by rw [HN.out]; simp [turnP, Ne.symm hpx])
                have hsz := H4.out.2.size
                obtain ⟨ii, hii, hiz, his, hib⟩ := info_parts info_int
                clear hpx
                go_wp2_with ((with_reducible show wpList _ _ _ (Oper.mk _ (.call { callee := .builtin .append, args := _, argTypes := _ }) _ _ _ _ :: _) _ _); refine wpList_append_row (by rfl) _ _ _ (by rfl) w.heap.size 3 ii _ 8 Try.underlying49 hii hiz his hib rfl _ (pre.length + 1) (IC (pre ++ [x])) (by rfl) (own_only H4.out.1 ((Only.refl Nil w4).alloc _) fun _ _ => id) ⟨w4.heap.size, 0, none⟩ 1 1 (IC [p]) (by rfl) (by rfl) (news_block (Blk.new w4 3 (IC [p]))) (IC_one _) (by omega) (by unfold maxLen; omega) (by omega) (by simp; omega) ?_; intro g6 cap6 w6 hg6; have HG := Lib.hid hg6; clear hg6)
                have HF := Lib.hid (show w6.ownsRow w.heap.size 3 1 (.slice (some ⟨g6, 0, none⟩) (pre.length + 1 + 1) cap6) ((pre ++ [x]).length + 1) (IC (pre ++ [x] ++ [p])) ∧ Only Nil w w6 from by
                  refine ⟨?_, (grew_only HG.out H4.out.1 H4.out.2 ((Only.refl Nil w4).alloc _) (Nat.le_refl _)).1⟩
                  have h := HG.out.own
                  rw [List.length_append, List.length_singleton]
                  have e2 : IC (pre ++ [x] ++ [p]) = IC (pre ++ [x]) ++ IC [p] := by simp [IC]
                  rw [e2]
                  exact h)
                go_roundw
                case rel => exact ⟨k + 1, pre ++ [x], p, by omega, by go_num, HT.out, by simp; omega, HF.out.1, HF.out.2⟩
                case measure => simp [intOf]; omega
        · obtain rfl : k = l.length := by omega
          have g1 : ¬ (l.length : Int) < (l.length : Int) := by omega
          clear hcellv
          go_wp2
          go_ret2
          exact ⟨⟨_, _, rfl, .inr ⟨HA.out, by rw [HPH.out, List.length_append]; exact HOwn.out, rfl⟩⟩, HO.out⟩
end Go.Proofs.Ythoaeolohnalnaa
