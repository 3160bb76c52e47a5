/-
  The walks of the reference's New, Len and Beyond.
-/
import Derived.Test.YthkongkbefpilaaDig14
namespace Go.Proofs.Ythkongkbefpilaa
open Go.RowKit Sha

theorem RHv.fresh (w : World) (base : Nat) : RHv ((w.alloc (.cells (WC Sha.start.list).toArray 52)).alloc (.cells #[.slice (some ⟨w.heap.size, 0, none⟩) 8 8, .slice none 0 0, .int .i64 0] 45)) base (w.heap.size + 1) (.slice none 0 0) [] 0 := by
  refine ⟨.slice (some ⟨w.heap.size, 0, none⟩) 8 8, ?_, ?_, rfl, .inl ⟨rfl, rfl⟩⟩
  · have := Blk.new (w.alloc (.cells (WC Sha.start.list).toArray 52)) 45 [.slice (some ⟨w.heap.size, 0, none⟩) 8 8, .slice none 0 0, .int .i64 0]
    rw [World.size_alloc] at this
    exact this
  · exact World.ownsRow.alloc (own_built w 0 (Nat.zero_le _) Sha.start.list rfl) _
theorem rnew_any (w : World) : Calls Try.prog 16 #[] w fun e w' => e = .returned (.pointer (some ⟨w.heap.size + 1, 0, none⟩)) ∧
    w' = (w.alloc (.cells (WC Sha.start.list).toArray 52)).alloc (.cells #[.slice (some ⟨w.heap.size, 0, none⟩) 8 8, .slice none 0 0, .int .i64 0] 45) := by
  go_enter Try.func16, Try.ntmps16
  go_wp2
  go_ret
  exact ⟨rfl, rfl⟩
theorem rlen_any (base g : Nat) (vr : Value) (m : List UInt8) (n : Int) (w : World) (hH : RHv w base g vr m n) : Calls Try.prog 22 #[.pointer (some ⟨g, 0, none⟩)] w fun e w' => e = .returned (.int .i64 n) ∧ w = w' := by
  obtain ⟨vh, hb, _, _⟩ := hH
  have c2 : w.cell? ⟨g, 2, none⟩ = some (.int .i64 n) := hb.cell 2
  clear hb
  go_enter Try.func22, Try.ntmps22
  go_wp2
  go_ret
  exact ⟨rfl, rfl⟩

/-! ## Beyond -/
def cost (p : List UInt8) : Nat := 1 + min p.length 2147483647
def costs (ps : List (List UInt8)) : Nat := (ps.map cost).sum
def bey (ps : List (List UInt8)) : Bool := decide (2147483647 < costs ps)
theorem costs_succ (ps : List (List UInt8)) (k : Nat) (h : k < ps.length) : costs (ps.take (k + 1)) = costs (ps.take k) + cost (ps.getD k []) := by
  unfold costs
  rw [List.take_add_one, List.map_append, List.sum_append]
  simp [List.getD, h]
theorem costs_le (ps : List (List UInt8)) (k : Nat) : costs (ps.take k) ≤ costs ps := by
  have := congrArg costs (List.take_append_drop k ps)
  unfold costs at *
  rw [List.map_append, List.sum_append] at this
  omega
theorem costs_flat (ps : List (List UInt8)) (h : costs ps ≤ 2147483647) : ps.flatten.length + ps.length ≤ 2147483647 := by
  have key : ∀ qs : List (List UInt8), costs qs ≤ 2147483647 → qs.flatten.length + qs.length ≤ costs qs := by
    intro qs
    induction qs with
    | nil => intro _; simp
    | cons q r ih =>
      intro hq
      have e : costs (q :: r) = cost q + costs r := by simp [costs]
      rw [e] at hq ⊢
      have := ih (by omega)
      unfold cost at *
      simp only [List.flatten_cons, List.length_append, List.length_cons]
      omega
  have := key ps h
  omega
theorem bey_false {ps : List (List UInt8)} (h : bey ps = false) : ps.flatten.length + ps.length ≤ 2147483647 := costs_flat ps (by unfold bey at h; simpa using h)
set_option maxHeartbeats 800000 in
theorem bey_any (v : Value) (vs : List Value) (ps : List (List UInt8)) (w : World) (hP : Parts w v vs ps) (hvl : vs.length ≤ 1000000000000000000) :
    Calls Try.prog 9 #[v] w fun e w' => e = .returned (.bool (bey ps)) ∧ w = w' := by
  obtain ⟨A, c, rfl, hc, hrow⟩ := hP.row
  have hn := hP.len
  have HP := Lib.hid hP
  have HR := Lib.hid hrow
  clear hP hrow
  go_enter Try.func9, Try.ntmps9
  go_wp2
  go_loopw [3, 4] (fun a i wr => ∃ k : Nat, k ≤ vs.length ∧ i = .int .i64 k ∧ a = .int .i64 (costs (ps.take k)) ∧ costs (ps.take k) ≤ 5000000000 ∧ wr = w) (fun _ i _ => vs.length - (intOf i).toNat)
  case atStart => exact ⟨0, Nat.zero_le _, rfl, rfl, by simp [costs], rfl⟩
  case round =>
    obtain ⟨k, hk, rfl, rfl, hcb, rfl⟩ := hrel
    by_cases hlt : k < vs.length
    · by_cases hbd : costs (ps.take k) ≤ 2147483647
      · obtain ⟨g, o, rfl, hcell⟩ := HR.out (by omega)
        have c0 := hcell k hlt
        have hsucc := costs_succ ps k (by omega)
        obtain ⟨A', c', hv, hc'⟩ := (HP.out.each k (by omega)).form
        rw [hv] at c0
        have hcost : cost (ps.getD k []) = 1 + min (ps.getD k []).length 2147483647 := rfl
        generalize (ps.getD k []).length = L at *
        rw [hcost] at hsucc
        clear hcost HR hcell hv
        generalize costs (ps.take k) = S at *
        generalize hS' : costs (ps.take (k + 1)) = S' at *
        have HS' := Lib.hid hS'
        clear hS' hn
        have g1 : (k : Int) < (vs.length : Int) := by omega
        have g2 : (S : Int) ≤ 2147483647 := by omega
        by_cases hL : L ≤ 2147483647
        · have g3 : (L : Int) ≤ 2147483647 := by omega
          have e5 : S' = S + 1 + L := by omega
          clear hsucc
          go_wp2
          go_roundw
          case rel => exact ⟨k + 1, by omega, by go_num, by rw [HS'.out]; go_num, by rw [HS'.out]; omega, trivial⟩
          case measure => simp [intOf]; omega
        · have g3 : ¬ (L : Int) ≤ 2147483647 := by omega
          have g4 : (2147483647 : Int) < (L : Int) := by omega
          have e5 : S' = S + 1 + 2147483647 := by omega
          clear hsucc
          go_wp2
          go_roundw
          case rel => exact ⟨k + 1, by omega, by go_num, by rw [HS'.out]; go_num, by rw [HS'.out]; omega, trivial⟩
          case measure => simp [intOf]; omega
      · have hle := costs_le ps k
        have hb : bey ps = true := by unfold bey; simp; omega
        generalize costs (ps.take k) = S at *
        have g1 : (k : Int) < (vs.length : Int) := by omega
        have g2 : ¬ (S : Int) ≤ 2147483647 := by omega
        have g3 : (2147483647 : Int) < (S : Int) := by omega
        have HB := Lib.hid hb
        clear hle hb hn
        go_wp2
        go_ret
        exact ⟨by rw [HB.out]; rfl, rfl⟩
    · have ht : ps.take k = ps := List.take_of_length_le (by omega)
      have g1 : ¬ (k : Int) < (vs.length : Int) := by omega
      have HB := Lib.hid (show bey ps = decide (2147483647 < (costs (ps.take k) : Int)) by rw [ht]; unfold bey; simp; omega)
      clear ht hn
      generalize costs (ps.take k) = S at *
      go_wp2
      go_ret
      exact ⟨by rw [HB.out]; rfl, rfl⟩
end Go.Proofs.Ythkongkbefpilaa
