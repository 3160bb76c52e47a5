/-
  The walks of the reference's New, Len and Beyond.
-/
import Derived.Test.YthkongkbefpilaaDoorDig14
namespace Go.Proofs.YthkongkbefpilaaDoor
open Go.RowKit Sha
theorem RHv.fresh (w : World) (base : Nat) : RHv ((w.alloc (.cells (WC Sha.start.list).toArray 71)).alloc (.cells #[.slice (some ⟨w.heap.size, 0, none⟩) 8 8, .slice none 0 0, .int .i64 0] 80)) base (w.heap.size + 1) (.slice none 0 0) [] 0 := by
  refine ⟨.slice (some ⟨w.heap.size, 0, none⟩) 8 8, ?_, ?_, rfl, .inl ⟨rfl, rfl⟩⟩
  · have := Blk.new (w.alloc (.cells (WC Sha.start.list).toArray 71)) 80 [.slice (some ⟨w.heap.size, 0, none⟩) 8 8, .slice none 0 0, .int .i64 0]
    rw [World.size_alloc] at this
    exact this
  · exact World.ownsRow.alloc (own_built w 0 (Nat.zero_le _) Sha.start.list rfl) _
theorem rnew_any (w : World) : Calls Tryd.prog 39 #[] w fun e w' => e = .returned (.pointer (some ⟨w.heap.size + 1, 0, none⟩)) ∧
    w' = (w.alloc (.cells (WC Sha.start.list).toArray 71)).alloc (.cells #[.slice (some ⟨w.heap.size, 0, none⟩) 8 8, .slice none 0 0, .int .i64 0] 80) := by
  go_enter Tryd.func39, Tryd.ntmps39
  go_wp2
  go_ret
  exact ⟨rfl, rfl⟩
def cost (p : List UInt8) : Nat := 1 + min p.length 2147483647
def costs (ps : List (List UInt8)) : Nat := (ps.map cost).sum
def bey (ps : List (List UInt8)) : Bool := decide (2147483647 < costs ps)
theorem costs_succ (ps : List (List UInt8)) (k : Nat) (h : k < ps.length) : costs (ps.take (k + 1)) = costs (ps.take k) + cost (ps.getD k []) := by
  unfold costs
  rw [List.take_add_one, List.map_append, List.sum_append]
  simp [List.getD, h]
theorem costs_le (ps : List (List UInt8)) (k : Nat) : costs (ps.take k) ≤ costs ps := by
  have := congrArg costs (List.take_append_drop k ps)
  unfold costs at *
  rw [List.map_append, List.sum_append] at this
  omega
theorem costs_flat (ps : List (List UInt8)) (h : costs ps ≤ 2147483647) : ps.flatten.length + ps.length ≤ 2147483647 := by
  have key : ∀ qs : List (List UInt8), costs qs ≤ 2147483647 → qs.flatten.length + qs.length ≤ costs qs := by
    intro qs
    induction qs with
    | nil => intro _; simp
    | cons q r ih =>
      intro hq
      have e : costs (q :: r) = cost q + costs r := by simp [costs]
      rw [e] at hq ⊢
      have := ih (by omega)
      unfold cost at *
      simp only [List.flatten_cons, List.length_append, List.length_cons]
      omega
  have := key ps h
  omega
theorem bey_false {ps : List (List UInt8)} (h : bey ps = false) : ps.flatten.length + ps.length ≤ 2147483647 := costs_flat ps (by unfold bey at h; simpa using h)
end Go.Proofs.YthkongkbefpilaaDoor
