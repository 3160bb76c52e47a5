/-
  'told': what it answers; what a trace in which none is at fault has.
-/
import Derived.Test.YthoaeolohnalnaaJp
import Derived.Test.YthoaeolohnalnaaJm
namespace Go.Proofs.Ythoaeolohnalnaa
open Go.RowKit

def TaleAt (W : World) (b : Nat) (t : Tl) : Prop := Blk W b 34 t.cells
theorem raddr_is (v : Value) (b : List UInt8) (x : Int) (o : Bool) (hx : addrP b = x) (ho : addrOk b = o) (w : World) (hb : RB w v b) : Calls Try.prog 26 #[v] w fun e w' => e = .returned (.tuple #[.int .u32 x, .bool o]) ∧ ∃ n, w' = w.drewN n := by
  subst hx ho
  exact raddressed_any v b w hb
set_option maxHeartbeats 6400000 in
set_option maxRecDepth 100000 in
theorem told_any (v : Value) (l : List Ev) (w : World) (hv : Evs w v l) (hn : l.length ≤ 1000000000000) :
    Calls Try.prog 13 #[v] w fun r w' => r = .returned (.agg (toP l l.length).cells.toArray) ∧ Only Nil w w' := by
  obtain ⟨A, cp, rfl, hcp, hrow⟩ := hv
  have hloop : ∀ k, k < l.length → ∃ ga oa, A = some ⟨ga, oa, none⟩ ∧ ∀ W, Only Nil w W → (∀ i, i < 7 → W.cell? ⟨ga, oa + k * 7 + i, none⟩ = (l.getD k ev0).cells[i]?) ∧ (l.getD k ev0).ok W := fun k hk => by
    obtain ⟨g, o, rfl, hcell⟩ := hrow (by omega)
    refine ⟨g, o, rfl, fun W ho => ⟨fun i hi => ?_, ((hcell k hk).2).off ho fun _ _ _ => id⟩⟩
    have h1 := (hcell k hk).1 i hi
    have hi7 : i < (l.getD k ev0).cells.length := hi
    rw [List.getElem?_eq_getElem hi7] at h1 ⊢
    exact ho.cell h1 id
  have HLp := Lib.hid hloop
  clear hrow hcp hloop
  go_enter Try.func13, Try.ntmps13
  go_upto_region 2 with fail
  obtain ⟨b, hb⟩ : ∃ b, w.heap.size = b := ⟨_, rfl⟩
  refine wp_gen (fun W => TaleAt W (b + 1) tl0 ∧ TaleAt W b tl0 ∧ Only Nil w W) ⟨by
      have := Blk.new (w.alloc (.cells tl0.cells.toArray 34)) 34 tl0.cells
      rw [World.size_alloc, hb] at this
      exact this, hb ▸ (Blk.new w 34 tl0.cells).alloc _, ((Only.refl _ _).alloc _).alloc _⟩ ?_
  have HW := Lib.hid (show w.heap.size ≤ b from Nat.le_of_eq hb)
  rw [hb]
  clear hb
  intro w1 h1
  have H1 := Lib.hid h1
  clear h1
  go_upto_region 6 with fail
  go_loopw [4, 5, 6, 7] (fun hd sip un i wr => ∃ k : Nat, k ≤ l.length ∧ i = .int .i64 (k : Nat) ∧ hd = .bool (toP l k).held ∧ sip = .int .u32 (toP l k).ip ∧ un = .int .i64 (toP l k).till ∧ TaleAt wr (b + 1) (toP l k) ∧ TaleAt wr b tl0 ∧ Only Nil w wr) (fun _ _ _ i _ => l.length - (intOf i).toNat)
  case atStart => exact ⟨0, Nat.zero_le _, rfl, rfl, rfl, rfl, H1.out.1, H1.out.2.1, H1.out.2.2⟩
  case round =>
    clear H1
    obtain ⟨k, hk, rfl, rfl, rfl, rfl, hT, hB, hO⟩ := hrel
    by_cases hlt : k < l.length
    · obtain ⟨ga, oa, rfl, hcell⟩ := HLp.out k hlt
      obtain ⟨hcl, _⟩ := hcell wr hO
      have HOK := Lib.hid (show ∀ W, Only Nil w W → (l.getD k ev0).ok W from fun W ho => (hcell W ho).2)
      have HN := Lib.hid (show toP l (k + 1) = tellP (toP l k) (l.getD k ev0) from rfl)
      obtain ⟨f0, f1, d0, d1, u0, u1⟩ := to_bounds l k
      generalize l.getD k ev0 = e at *
      generalize toP l k = t at *
      obtain ⟨kind, time, ip, till, why, len, a, cap, data⟩ := e
      obtain ⟨tf, td, tu, tb, tw, th, ti, tt⟩ := t
      simp only at f0 f1 d0 d1 u0 u1
      have q0 : wr.cell? ⟨ga, oa + k * 7, none⟩ = some (.int .i64 kind) := hcl 0 (by omega)
      have q1 : wr.cell? ⟨ga, oa + k * 7 + 1, none⟩ = some (.int .i64 time) := hcl 1 (by omega)
      have q2 : wr.cell? ⟨ga, oa + k * 7 + 2, none⟩ = some (.int .u32 ip) := hcl 2 (by omega)
      have q3 : wr.cell? ⟨ga, oa + k * 7 + 3, none⟩ = some (.int .i64 till) := hcl 3 (by omega)
      have q4 : wr.cell? ⟨ga, oa + k * 7 + 4, none⟩ = some (.int .i64 why) := hcl 4 (by omega)
      have q5 : wr.cell? ⟨ga, oa + k * 7 + 5, none⟩ = some (.int .i64 len) := hcl 5 (by omega)
      have q6 : wr.cell? ⟨ga, oa + k * 7 + 6, none⟩ = some (.slice a data.length cap) := hcl 6 (by omega)
      have HR := Lib.hid (And.intro hT (And.intro hB hO))
      clear hcl hcell HLp hT hB hO
      go_upto_region 9 with fail
      obtain ⟨p, hp⟩ : ∃ p, wr.heap.size = p := ⟨_, rfl⟩
      refine wp_gen (fun W => (TaleAt W (b + 1) ⟨tf, td, tu, tb, tw, th, ti, tt⟩ ∧ TaleAt W b tl0 ∧ Only Nil w W) ∧ Blk W p 48 [.int .i64 kind, .int .i64 time, .int .u32 ip, .int .i64 till, .int .i64 why, .int .i64 len, .slice a data.length cap])
        ⟨⟨HR.out.1.alloc _, HR.out.2.1.alloc _, HR.out.2.2.alloc _⟩, hp ▸ Blk.new wr _ _⟩ ?_
      rw [hp]
      clear HR hp q0 q1 q2 q3 q4 q5 q6
      intro w4 h4
      have q0 : w4.cell? ⟨p, 0, none⟩ = some (.int .i64 kind) := h4.2.cell 0
      have q1 : w4.cell? ⟨p, 1, none⟩ = some (.int .i64 time) := h4.2.cell 1
      have q2 : w4.cell? ⟨p, 2, none⟩ = some (.int .u32 ip) := h4.2.cell 2
      have q3 : w4.cell? ⟨p, 3, none⟩ = some (.int .i64 till) := h4.2.cell 3
      have q6 : w4.cell? ⟨p, 6, none⟩ = some (.slice a data.length cap) := h4.2.cell 6
      have c0 : w4.cell? ⟨b + 1, 0, none⟩ = some (.int .i64 tf) := h4.1.1.cell 0
      have c1 : w4.cell? ⟨b + 1, 1, none⟩ = some (.int .i64 td) := h4.1.1.cell 1
      have c2 : w4.cell? ⟨b + 1, 2, none⟩ = some (.int .i64 tu) := h4.1.1.cell 2
      have c3 : w4.cell? ⟨b + 1, 3, none⟩ = some (.bool tb) := h4.1.1.cell 3
      have c4 : w4.cell? ⟨b + 1, 4, none⟩ = some (.bool tw) := h4.1.1.cell 4
      have z0 := h4.1.1.free 0
      have z1 := h4.1.1.free 1
      have z2 := h4.1.1.free 2
      have z3 := h4.1.1.free 3
      have z4 := h4.1.1.free 4
      have H4 := Lib.hid h4.1
      have HP := Lib.hid (show ∀ W i u, TaleAt W b tl0 ∧ Only Nil w W → TaleAt (W.setCell ⟨b + 1, i, none⟩ u) b tl0 ∧ Only Nil w (W.setCell ⟨b + 1, i, none⟩ u) from fun W i u h => ⟨h.1.far (p := ⟨b + 1, i, none⟩) (by show b ≠ b + 1; omega) u, h.2.setCell (p := ⟨b + 1, i, none⟩) (.inr (show w.heap.size ≤ b + 1 by have := HW.out; omega)) u⟩)
      clear h4
      by_cases k2 : kind = 2
      · subst k2
        have hs := Lib.hid (show toP l (k + 1) = ⟨tf, td, tu, tb, tw, true, ip, till⟩ by rw [HN.out]; simp [tellP])
        go_wp2_with fail
        go_roundw
        case rel => exact ⟨k + 1, by omega, by go_num, by rw [hs.out], by rw [hs.out], by rw [hs.out], by rw [hs.out]; exact H4.out.1, H4.out.2.1, H4.out.2.2⟩
        case measure => simp [intOf]; omega
      by_cases k3 : kind = 3
      · subst k3
        have hs := Lib.hid (show toP l (k + 1) = ⟨tf, td, tu, tb, tw, false, ti, tt⟩ by rw [HN.out]; simp [tellP])
        go_wp2_with fail
        go_roundw
        case rel => exact ⟨k + 1, by omega, by go_num, by rw [hs.out], by rw [hs.out], by rw [hs.out], by rw [hs.out]; exact H4.out.1, H4.out.2.1, H4.out.2.2⟩
        case measure => simp [intOf]; omega
      by_cases k4 : kind = 4
      · subst k4
        obtain ⟨nb, hnb⟩ : ∃ nb, (tb || decide (0 < td + tu)) = nb := ⟨_, rfl⟩
        have hs := Lib.hid (show toP l (k + 1) = ⟨tf, td, tu, nb, tw, th, ti, tt⟩ by rw [HN.out]; simp [tellP, ← hnb])
        have hx : ∀ w5, w5 = w4.setCell ⟨b + 1, 3, none⟩ (.bool nb) → TaleAt w5 (b + 1) ⟨tf, td, tu, nb, tw, th, ti, tt⟩ ∧ TaleAt w5 b tl0 ∧ Only Nil w w5 := fun w5 h => by subst h; exact ⟨H4.out.1.set 3 (.bool nb), HP.out _ 3 (.bool nb) H4.out.2⟩
        have HX := Lib.hid hx
        clear hx
        cases tb
        · by_cases hd : 0 < td + tu
          · obtain rfl : nb = true := by rw [← hnb]; simp [hd]
            clear hnb
            go_wp2_with fail
            go_roundw
            case rel => exact ⟨k + 1, by omega, by go_num, by rw [hs.out], by rw [hs.out], by rw [hs.out], by rw [hs.out]; exact (HX.out _ rfl).1, (HX.out _ rfl).2.1, (HX.out _ rfl).2.2⟩
            case measure => simp [intOf]; omega
          · obtain rfl : nb = false := by rw [← hnb]; simp [hd]
            clear hnb
            go_wp2_with fail
            go_roundw
            case rel => exact ⟨k + 1, by omega, by go_num, by rw [hs.out], by rw [hs.out], by rw [hs.out], by rw [hs.out]; exact (HX.out _ rfl).1, (HX.out _ rfl).2.1, (HX.out _ rfl).2.2⟩
            case measure => simp [intOf]; omega
        · obtain rfl : nb = true := by rw [← hnb]; simp
          clear hnb
          go_wp2_with fail
          go_roundw
          case rel => exact ⟨k + 1, by omega, by go_num, by rw [hs.out], by rw [hs.out], by rw [hs.out], by rw [hs.out]; exact (HX.out _ rfl).1, (HX.out _ rfl).2.1, (HX.out _ rfl).2.2⟩
          case measure => simp [intOf]; omega
      by_cases k5 : kind = 5
      · subst k5
        obtain ⟨nb, hnb⟩ : ∃ nb, (tb || decide (0 < td + tu)) = nb := ⟨_, rfl⟩
        have hs := Lib.hid (show toP l (k + 1) = ⟨tf + 1, td, tu, nb, tw, th, ti, tt⟩ by rw [HN.out]; simp [tellP, ← hnb])
        have HX := Lib.hid (show ∀ w5, w5 = (w4.setCell ⟨b + 1, 3, none⟩ (.bool nb)).setCell ⟨b + 1, 0, none⟩ (.int .i64 (tf + 1)) → TaleAt w5 (b + 1) ⟨tf + 1, td, tu, nb, tw, th, ti, tt⟩ ∧ TaleAt w5 b tl0 ∧ Only Nil w w5 from fun w5 h => by subst h; exact ⟨(H4.out.1.set 3 (.bool nb)).set 0 (.int .i64 (tf + 1)), HP.out _ 0 _ (HP.out _ 3 (.bool nb) H4.out.2)⟩)
        cases tb
        · by_cases hd : 0 < td + tu
          · obtain rfl : nb = true := by rw [← hnb]; simp [hd]
            clear hnb
            go_wp2_with fail
            go_roundw
            case rel => exact ⟨k + 1, by omega, by go_num, by rw [hs.out], by rw [hs.out], by rw [hs.out], by rw [hs.out]; exact (HX.out _ rfl).1, (HX.out _ rfl).2.1, (HX.out _ rfl).2.2⟩
            case measure => simp [intOf]; omega
          · obtain rfl : nb = false := by rw [← hnb]; simp [hd]
            clear hnb
            go_wp2_with fail
            go_roundw
            case rel => exact ⟨k + 1, by omega, by go_num, by rw [hs.out], by rw [hs.out], by rw [hs.out], by rw [hs.out]; exact (HX.out _ rfl).1, (HX.out _ rfl).2.1, (HX.out _ rfl).2.2⟩
            case measure => simp [intOf]; omega
        · obtain rfl : nb = true := by rw [← hnb]; simp
          clear hnb
          go_wp2_with fail
          go_roundw
          case rel => exact ⟨k + 1, by omega, by go_num, by rw [hs.out], by rw [hs.out], by rw [hs.out], by rw [hs.out]; exact (HX.out _ rfl).1, (HX.out _ rfl).2.1, (HX.out _ rfl).2.2⟩
          case measure => simp [intOf]; omega
      by_cases k6 : kind = 6
      · subst k6
        have hs := Lib.hid (show toP l (k + 1) = ⟨tf, td + 1, tu, tb, tw, th, ti, tt⟩ by rw [HN.out]; simp [tellP])
        have HX := Lib.hid (show ∀ w5, w5 = w4.setCell ⟨b + 1, 1, none⟩ (.int .i64 (td + 1)) → TaleAt w5 (b + 1) ⟨tf, td + 1, tu, tb, tw, th, ti, tt⟩ ∧ TaleAt w5 b tl0 ∧ Only Nil w w5 from fun w5 h => by subst h; exact ⟨H4.out.1.set 1 (.int .i64 (td + 1)), HP.out _ 1 _ H4.out.2⟩)
        go_wp2_with fail
        go_roundw
        case rel => exact ⟨k + 1, by omega, by go_num, by rw [hs.out], by rw [hs.out], by rw [hs.out], by rw [hs.out]; exact (HX.out _ rfl).1, (HX.out _ rfl).2.1, (HX.out _ rfl).2.2⟩
        case measure => simp [intOf]; omega
      by_cases k7 : kind = 7
      · subst k7
        have hs := Lib.hid (show toP l (k + 1) = ⟨tf, td, tu + 1, tb, tw, th, ti, tt⟩ by rw [HN.out]; simp [tellP])
        have HX := Lib.hid (show ∀ w5, w5 = w4.setCell ⟨b + 1, 2, none⟩ (.int .i64 (tu + 1)) → TaleAt w5 (b + 1) ⟨tf, td, tu + 1, tb, tw, th, ti, tt⟩ ∧ TaleAt w5 b tl0 ∧ Only Nil w w5 from fun w5 h => by subst h; exact ⟨H4.out.1.set 2 (.int .i64 (tu + 1)), HP.out _ 2 _ H4.out.2⟩)
        go_wp2_with fail
        go_roundw
        case rel => exact ⟨k + 1, by omega, by go_num, by rw [hs.out], by rw [hs.out], by rw [hs.out], by rw [hs.out]; exact (HX.out _ rfl).1, (HX.out _ rfl).2.1, (HX.out _ rfl).2.2⟩
        case measure => simp [intOf]; omega
      by_cases k1 : kind = 1
      · subst k1
        obtain ⟨x, hx⟩ : ∃ x, addrP data = x := ⟨_, rfl⟩
        obtain ⟨o, ho⟩ : ∃ o, addrOk data = o := ⟨_, rfl⟩
        have hcall := raddr_is (.slice a data.length cap) data x o hx ho w4 (HOK.out _ H4.out.2.2).rb
        have HM := Lib.hid (show toP l (k + 1) = ⟨tf, td, tu, tb, tw || (o && (!decide (x = 0) && (!th || (!decide (x = ti) || (!decide (tt = -1) && decide (tt ≤ time)))))), th, ti, tt⟩ by rw [HN.out, ← hx, ← ho]; simp [tellP, wrongP])
        have HX := Lib.hid (show ∀ n w5, w5 = (w4.drewN n).setCell ⟨b + 1, 4, none⟩ (.bool true) → TaleAt w5 (b + 1) ⟨tf, td, tu, tb, true, th, ti, tt⟩ ∧ TaleAt w5 b tl0 ∧ Only Nil w w5 from fun n w5 h => by subst h; exact ⟨(H4.out.1.drewN n).set 4 (.bool true), HP.out _ 4 _ ⟨H4.out.2.1.drewN n, H4.out.2.2.drewN n⟩⟩)
        clear hx ho HN HP
        cases o
        · have hs := Lib.hid (show toP l (k + 1) = ⟨tf, td, tu, tb, tw, th, ti, tt⟩ by rw [HM.out]; simp)
          go_wp2_with (go_at_call 26; refine hcall.mono ?_; rintro r w5 ⟨rfl, n, rfl⟩)
          go_roundw
          case rel => exact ⟨k + 1, by omega, by go_num, by rw [hs.out], by rw [hs.out], by rw [hs.out], by rw [hs.out]; exact H4.out.1.drewN n, H4.out.2.1.drewN n, H4.out.2.2.drewN n⟩
          case measure => simp [intOf]; omega
        by_cases x0 : x = 0
        · subst x0
          have hs := Lib.hid (show toP l (k + 1) = ⟨tf, td, tu, tb, tw, th, ti, tt⟩ by rw [HM.out]; simp)
          go_wp2_with (go_at_call 26; refine hcall.mono ?_; rintro r w5 ⟨rfl, n, rfl⟩)
          go_roundw
          case rel => exact ⟨k + 1, by omega, by go_num, by rw [hs.out], by rw [hs.out], by rw [hs.out], by rw [hs.out]; exact H4.out.1.drewN n, H4.out.2.1.drewN n, H4.out.2.2.drewN n⟩
          case measure => simp [intOf]; omega
        have hx0 : (x != 0) = true := by simp [x0]
        cases th
        · have hs := Lib.hid (show toP l (k + 1) = ⟨tf, td, tu, tb, true, false, ti, tt⟩ by rw [HM.out]; simp [x0])
          go_wp2_with (go_at_call 26; refine hcall.mono ?_; rintro r w5 ⟨rfl, n, rfl⟩)
          go_roundw
          case rel => exact ⟨k + 1, by omega, by go_num, by rw [hs.out], by rw [hs.out], by rw [hs.out], by rw [hs.out]; exact (HX.out n _ rfl).1, (HX.out n _ rfl).2.1, (HX.out n _ rfl).2.2⟩
          case measure => simp [intOf]; omega
        by_cases x1 : x = ti
        · subst x1
          by_cases t1 : tt = -1
          · subst t1
            have hs := Lib.hid (show toP l (k + 1) = ⟨tf, td, tu, tb, tw, true, x, -1⟩ by rw [HM.out]; simp)
            go_wp2_with (go_at_call 26; refine hcall.mono ?_; rintro r w5 ⟨rfl, n, rfl⟩)
            go_roundw
            case rel => exact ⟨k + 1, by omega, by go_num, by rw [hs.out], by rw [hs.out], by rw [hs.out], by rw [hs.out]; exact H4.out.1.drewN n, H4.out.2.1.drewN n, H4.out.2.2.drewN n⟩
            case measure => simp [intOf]; omega
          have ht1 : (tt != -1) = true := by simp [t1]
          by_cases t2 : tt ≤ time
          · have hs := Lib.hid (show toP l (k + 1) = ⟨tf, td, tu, tb, true, true, x, tt⟩ by rw [HM.out]; simp [x0, t1, t2])
            go_wp2_with (go_at_call 26; refine hcall.mono ?_; rintro r w5 ⟨rfl, n, rfl⟩)
            go_roundw
            case rel => exact ⟨k + 1, by omega, by go_num, by rw [hs.out], by rw [hs.out], by rw [hs.out], by rw [hs.out]; exact (HX.out n _ rfl).1, (HX.out n _ rfl).2.1, (HX.out n _ rfl).2.2⟩
            case measure => simp [intOf]; omega
          · have hs := Lib.hid (show toP l (k + 1) = ⟨tf, td, tu, tb, tw, true, x, tt⟩ by rw [HM.out]; simp [t2])
            go_wp2_with (go_at_call 26; refine hcall.mono ?_; rintro r w5 ⟨rfl, n, rfl⟩)
            go_roundw
            case rel => exact ⟨k + 1, by omega, by go_num, by rw [hs.out], by rw [hs.out], by rw [hs.out], by rw [hs.out]; exact H4.out.1.drewN n, H4.out.2.1.drewN n, H4.out.2.2.drewN n⟩
            case measure => simp [intOf]; omega
        · have hx1 : (x != ti) = true := by simp [x1]
          have hs := Lib.hid (show toP l (k + 1) = ⟨tf, td, tu, tb, true, true, ti, tt⟩ by rw [HM.out]; simp [x0, x1])
          go_wp2_with (go_at_call 26; refine hcall.mono ?_; rintro r w5 ⟨rfl, n, rfl⟩)
          go_roundw
          case rel => exact ⟨k + 1, by omega, by go_num, by rw [hs.out], by rw [hs.out], by rw [hs.out], by rw [hs.out]; exact (HX.out n _ rfl).1, (HX.out n _ rfl).2.1, (HX.out n _ rfl).2.2⟩
          case measure => simp [intOf]; omega
      have hs := Lib.hid (show toP l (k + 1) = ⟨tf, td, tu, tb, tw, th, ti, tt⟩ by rw [HN.out]; simp [tellP, k1, k2, k3, k4, k5, k6, k7])
      go_wp2_with fail
      go_roundw
      case rel => exact ⟨k + 1, by omega, by go_num, by rw [hs.out], by rw [hs.out], by rw [hs.out], by rw [hs.out]; exact H4.out.1, H4.out.2.1, H4.out.2.2⟩
      case measure => simp [intOf]; omega
    · have hkl : k = l.length := by omega
      subst hkl
      have hsz : (toP l l.length).cells.toArray.size = 5 := rfl
      have hone : ∀ v ∈ (toP l l.length).cells, v.oneCell' = true := fun v hv => by
        simp only [Tl.cells, List.mem_cons, List.not_mem_nil, or_false] at hv
        rcases hv with rfl | rfl | rfl | rfl | rfl <;> rfl
      go_wp2_with (first
        | ((with_reducible show wpList _ _ _ (Oper.mk _ (.load 34 _) _ _ _ _ :: _) _ _); refine wpList_load_row rfl 34 (.tmp 3) rfl (b + 1) rfl 34 (toP l l.length).cells.toArray (0, 0) _ hT Try.underlying34 rfl (by rw [hsz]; kernel_rfl) ?_)
        | ((with_reducible show wpList _ _ _ (Oper.mk _ (.store _ _ _) _ _ _ _ :: _) _ _); refine wpList_store_row rfl 34 (.tmp 2) (.tmp 106) rfl b (toP l l.length).cells.toArray rfl rfl _ _ hB (by rw [hsz]; kernel_rfl) (by rw [hsz]; rfl) (all_oneCell_toArray hone) ?_))
      refine bodyPost_ret (results_cell_row rfl _ _ b 34 (toP l l.length).cells.toArray (0, 0) _ rfl (setRow_heap _ _ _ _ _ _ hB) Try.underlying34 rfl (by rw [hsz]; kernel_rfl)) rfl ⟨rfl, hO.setRow (.inr HW.out) _⟩
end Go.Proofs.Ythoaeolohnalnaa
