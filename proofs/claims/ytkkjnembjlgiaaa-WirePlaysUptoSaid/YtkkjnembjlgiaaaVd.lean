/-
  The document's wire (slipwayref22): first, Next.
-/
import Derived.Test.YtkkjnembjlgiaaaVc
namespace Go.Proofs.Ytkkjnembjlgiaaa
set_option maxRecDepth 100000
open Go.RowKit

/-- The first of the least among the first n. -/
structure IsFst (l : List Wy) (n k : Nat) : Prop where
  lt : k < n
  least : ∀ j, j < n → (l.getD k wy0).due ≤ (l.getD j wy0).due
  first : ∀ j, j < k → (l.getD k wy0).due < (l.getD j wy0).due
theorem IsFst.one (l : List Wy) : IsFst l 1 0 := ⟨by decide, fun j hj => by
    obtain rfl : j = 0 := by omega
    exact Int.le_refl _, fun j hj => absurd hj (Nat.not_lt_zero _)⟩
theorem IsFst.keep {l : List Wy} {n k : Nat} (h : IsFst l n k) (hn : ¬ (l.getD n wy0).due < (l.getD k wy0).due) : IsFst l (n + 1) k :=
  ⟨Nat.lt_succ_of_lt h.lt, fun j hj => by
    rcases Nat.lt_succ_iff_lt_or_eq.1 hj with h1 | h1
    · exact h.least j h1
    · subst h1
      omega, h.first⟩
theorem IsFst.new {l : List Wy} {n k : Nat} (h : IsFst l n k) (hn : (l.getD n wy0).due < (l.getD k wy0).due) : IsFst l (n + 1) n :=
  ⟨Nat.lt_succ_self n, fun j hj => by
    rcases Nat.lt_succ_iff_lt_or_eq.1 hj with h1 | h1
    · have := h.least j h1
      omega
    · subst h1
      exact Int.le_refl _, fun j hj => by have := h.least j hj; omega⟩
def FstR (l : List Wy) (x : Int) : Prop := (l.length = 0 ∧ x = -1) ∨ ∃ k : Nat, x = k ∧ IsFst l l.length k
section
variable {B : Nat} {w w' W w1 w2 : World} {F F' S : Nat → Prop} {b : Nat} {v vw vf v' : Value} {s s' : WS}
set_option maxHeartbeats 3200000 in
theorem first_any (h : IsVire B w F b s) (hl : s.ways.length ≤ 4096) : Calls Try.prog 38 #[.pointer (some ⟨b, 0, none⟩)] w fun e w' => Only Nil w w' ∧ ∃ x : Int, e = .returned (.int .i64 x) ∧ FstR s.ways x := by
  obtain ⟨vw, vf, hA⟩ := h.at'
  obtain ⟨A, cap, hvw⟩ := hA.ways.slice
  obtain ⟨m, hm⟩ : ∃ m, s.ways.length = m := ⟨_, rfl⟩
  have HM := Lib.hid hm
  have HW := Lib.hid (show ∀ W, Only Nil w W → OwV B W (.slice A m cap) s.ways ∧ W.cell? ⟨b, 1, none⟩ = some (.slice A m cap) from fun W ho => by
    have h1 := hA.nil ho
    have h2 := h1.ways
    have h3 := h1.c1
    rw [hvw, hm] at h2 h3
    exact ⟨h2, h3⟩)
  rw [hm] at hl
  clear h hA hvw hm
  go_enter Try.func38, Try.ntmps38
  go_wp2
  go_loopw [3, 4] (fun kv i W => ∃ n : Nat, n ≤ m ∧ i = .int .i64 n ∧ Only Nil w W ∧ ((n = 0 ∧ kv = .int .i64 (-1)) ∨ ∃ k : Nat, kv = .int .i64 k ∧ IsFst s.ways n k)) (fun _ i _ => m - (intOf i).toNat)
  case atStart => exact ⟨0, Nat.zero_le _, rfl, Only.refl _ _, .inl ⟨rfl, rfl⟩⟩
  case round =>
    obtain ⟨n, hn, rfl, ho, hk⟩ := hrel
    obtain ⟨hov, c1⟩ := HW.out wr ho
    have HO := Lib.hid ho
    by_cases hlt : n < m
    · have g1 : (n : Int) < (m : Int) := by omega
      rcases hk with ⟨rfl, rfl⟩ | ⟨k, rfl, hk⟩
      · clear ho hov
        go_upto_region 5 with fail
        go_quiet (fail)
        go_wp2
        go_roundw
        case rel => exact ⟨1, by omega, rfl, HO.out.drewN nq, .inr ⟨0, rfl, IsFst.one _⟩⟩
        case measure => simp only [intOf]; omega
      · have hkm : k < m := Nat.lt_trans hk.lt hlt
        obtain ⟨g, rfl, p0, _⟩ := hov.cells (j := n) (by rw [HM.out]; exact hlt)
        obtain ⟨g', e, p1, _⟩ := hov.cells (j := k) (by rw [HM.out]; exact hkm)
        obtain rfl : g = g' := by injection e with e; injection e
        obtain ⟨x, hx⟩ : ∃ x, (s.ways.getD n wy0).due = x := ⟨_, rfl⟩
        obtain ⟨y, hy⟩ : ∃ x, (s.ways.getD k wy0).due = x := ⟨_, rfl⟩
        have HX := Lib.hid hx
        have HY := Lib.hid hy
        have HK := Lib.hid hk
        rw [hx] at p0
        rw [hy] at p1
        have g2 : ¬ (k : Int) < 0 := by omega
        have g3 : (k : Int) < (m : Int) := by omega
        clear ho hov e hx hy hk
        by_cases hxy : x < y
        · go_upto_region 5 with fail
          go_quiet (fail)
          go_wp2
          go_roundw
          case rel => exact ⟨n + 1, by omega, by go_num, HO.out.drewN nq, .inr ⟨n, rfl, HK.out.new (by rw [HX.out, HY.out]; exact hxy)⟩⟩
          case measure => simp only [intOf]; omega
        · go_upto_region 5 with fail
          go_quiet (fail)
          go_wp2
          go_roundw
          case rel => exact ⟨n + 1, by omega, by go_num, HO.out.drewN nq, .inr ⟨k, rfl, HK.out.keep (by rw [HX.out, HY.out]; exact hxy)⟩⟩
          case measure => simp only [intOf]; omega
    · have hnm : n = m := by omega
      subst hnm
      have g1 : ¬ (n : Int) < (n : Int) := by omega
      rcases hk with ⟨rfl, rfl⟩ | ⟨k, rfl, hk⟩
      · clear ho hov
        go_wp2
        go_ret
        exact ⟨HO.out, _, rfl, .inl ⟨HM.out, rfl⟩⟩
      · have HK := Lib.hid hk
        clear ho hov hk
        go_wp2
        go_ret
        exact ⟨HO.out, _, rfl, .inr ⟨k, rfl, by rw [HM.out]; exact HK.out⟩⟩
theorem rnext_any (h : IsVire B w F b s) (hl : s.ways.length ≤ 4096) : Calls Try.prog 25 #[.pointer (some ⟨b, 0, none⟩)] w fun e w' => Only Nil w w' ∧ ((s.ways.length = 0 ∧ e = .returned (.tuple #[.int .i64 0, .bool false])) ∨ ∃ k, IsFst s.ways s.ways.length k ∧ e = .returned (.tuple #[.int .i64 (s.ways.getD k wy0).due, .bool true])) := by
  have hfst := first_any h hl
  have HH := Lib.hid h
  clear h
  go_enter Try.func25, Try.ntmps25
  go_upto_region 2 with (go_at_call 38; refine hfst.mono ?_; rintro e w1 ⟨ho, x, rfl, hx⟩)
  have HO := Lib.hid ho
  obtain ⟨vw, vf, hA⟩ := (HH.out.nil ho).at'
  obtain ⟨A, cap, hvw⟩ := hA.ways.slice
  have c1 := hA.c1
  rw [hvw] at c1
  clear hfst
  rcases hx with ⟨h0, rfl⟩ | ⟨k, rfl, hk⟩
  · have HZ := Lib.hid h0
    clear hA h0 hvw ho
    go_wp2
    go_ret2
    exact ⟨HO.out, .inl ⟨HZ.out, rfl⟩⟩
  · have hov := hA.ways
    rw [hvw] at hov
    obtain ⟨g, rfl, p0, _⟩ := hov.cells (j := k) hk.lt
    have g1 : ¬ (k : Int) < 0 := by omega
    have g2 : (k : Int) < (s.ways.length : Int) := by have := hk.lt; omega
    have HK := Lib.hid hk
    clear hA hvw hov ho hk
    go_wp2
    go_ret2
    exact ⟨HO.out, .inr ⟨k, HK.out, rfl⟩⟩
end
end Go.Proofs.Ytkkjnembjlgiaaa
