/-
  What the bounded statements' bulk says of a reading's length.
-/
import Derived.Test.YthoaeolohnalnaaRow
namespace Go.Proofs.Ythoaeolohnalnaa

section
variable {H : Type}
theorem bulk_pos (d : DataW H) : 1 ≤ Rows.uptoBulk d := by
  cases d with
  | lit l => cases l <;> simp [Rows.uptoBulk]
  | nil => simp [Rows.uptoBulk]
  | ptr d => simp [Rows.uptoBulk]
  | slice elems spare => simp [Rows.uptoBulk]
  | agg parts => simp [Rows.uptoBulk]
  | iface t d => simp [Rows.uptoBulk]
  | map entries => simp [Rows.uptoBulk]
  | held h => simp [Rows.uptoBulk]
theorem length_bulk (l : List (DataW H)) : l.length ≤ Rows.uptoBulkAll l := by
  induction l with
  | nil => simp [Rows.uptoBulkAll]
  | cons x r ih => have := bulk_pos x; simp only [Rows.uptoBulkAll, List.length_cons]; omega
theorem mem_bulk {d : DataW H} {l : List (DataW H)} (h : d ∈ l) : Rows.uptoBulk d ≤ Rows.uptoBulkAll l := by
  induction l with
  | nil => cases h
  | cons x r ih =>
    simp only [Rows.uptoBulkAll]
    rcases List.mem_cons.1 h with rfl | h
    · omega
    · have := ih h; omega
theorem dlen_bulk (d : DataW H) : dlen d ≤ Rows.uptoBulk d := by
  cases d with
  | slice elems spare => have := length_bulk elems; simp only [Rows.uptoBulk, dlen]; omega
  | _ => simp [dlen]
theorem bulk_bound {l : List (DataW H)} (hk : Rows.uptoSmall H l = true) : Rows.uptoBulkAll l ≤ 1048576 := of_decide_eq_true hk
theorem dlen_bound {l : List (DataW H)} (hk : Rows.uptoSmall H l = true) {d : DataW H} (h : d ∈ l) : dlen d ≤ 1048576 :=
  Nat.le_trans (dlen_bulk d) (Nat.le_trans (mem_bulk h) (bulk_bound hk))
end
end Go.Proofs.Ythoaeolohnalnaa
