/-
  The heap of frames: what it computes (up, down), and its row in memory.
-/
import Derived.Test.YtkkjnembjlgiaaaWa
namespace Go.Proofs.Ytkkjnembjlgiaaa
set_option maxRecDepth 100000
open Go.RowKit

/-! ## The heap, in lists -/
def swapL (l : List Wy) (i j : Nat) : List Wy := (l.set i (l.getD j wy0)).set j (l.getD i wy0)
theorem swapL_length (l : List Wy) (i j : Nat) : (swapL l i j).length = l.length := by simp [swapL]
def up (l : List Wy) (i : Nat) : List Wy :=
  if 0 < i ∧ aheadB (l.getD i wy0) (l.getD ((i - 1) / 2) wy0) = true then up (swapL l i ((i - 1) / 2)) ((i - 1) / 2) else l
termination_by i
decreasing_by omega
def pushP (l : List Wy) (x : Wy) : List Wy := up (l ++ [x]) l.length
def kidB (l : List Wy) (k : Nat) : Bool := decide (k + 1 < l.length) && aheadB (l.getD (k + 1) wy0) (l.getD k wy0)
def kid (l : List Wy) (k : Nat) : Nat := if kidB l k then k + 1 else k
def down (l : List Wy) (i : Nat) : List Wy :=
  if 2 * i + 1 < l.length ∧ aheadB (l.getD (kid l (2 * i + 1)) wy0) (l.getD i wy0) = true then down (swapL l i (kid l (2 * i + 1))) (kid l (2 * i + 1)) else l
termination_by l.length - i
decreasing_by
  rw [swapL_length]
  unfold kid
  split <;> omega
/-- What is left when the first one is taken. -/
def popP (l : List Wy) : List Wy := down ((l.set 0 (l.getD (l.length - 1) wy0)).take (l.length - 1)) 0

/-! ## Its row -/
def flatW (l : List Wy) : List Value := l.flatMap Wy.cells
theorem flatW_len (l : List Wy) : (flatW l).length = l.length * 3 := by
  induction l with
  | nil => rfl
  | cons x r ih =>
    show (x.cells ++ flatW r).length = (r.length + 1) * 3
    rw [List.length_append, ih, show x.cells.length = 3 from rfl]
    omega
theorem flatW_get : ∀ (l : List Wy) (j i : Nat), j < l.length → i < 3 → (flatW l)[j * 3 + i]? = (l.getD j wy0).cells[i]?
  | [], j, _, hj, _ => absurd hj (Nat.not_lt_zero j)
  | x :: r, 0, i, _, hi => by
    show (x.cells ++ flatW r)[0 * 3 + i]? = _
    rw [Nat.zero_mul, Nat.zero_add, List.getElem?_append_left (by exact hi)]
    rfl
  | x :: r, j + 1, i, hj, hi => by
    show (x.cells ++ flatW r)[(j + 1) * 3 + i]? = _
    have hx : x.cells.length = 3 := rfl
    rw [List.getElem?_append_right (by rw [hx]; omega), hx, show (j + 1) * 3 + i - 3 = j * 3 + i by omega, flatW_get r j i (by simpa using hj) hi]
    simp [List.getD]
theorem flatW_snoc (l : List Wy) (e : Wy) : flatW (l ++ [e]) = flatW l ++ e.cells := by simp [flatW]
theorem flatW_set : ∀ (l : List Wy) (j : Nat) (x : Wy), j < l.length → flatW (l.set j x) = (((flatW l).set (j * 3) (.int .i64 x.due)).set (j * 3 + 1) (.int .i64 x.num)).set (j * 3 + 2) x.d
  | [], j, _, hj => absurd hj (Nat.not_lt_zero j)
  | y :: r, 0, x, _ => rfl
  | y :: r, j + 1, x, hj => by
    show y.cells ++ flatW (r.set j x) = _
    have hy : y.cells.length = 3 := rfl
    show _ = (((y.cells ++ flatW r).set ((j + 1) * 3) _).set ((j + 1) * 3 + 1) _).set ((j + 1) * 3 + 2) _
    rw [List.set_append_right _ _ (by rw [hy]; omega), List.set_append_right _ _ (by rw [hy]; omega), List.set_append_right _ _ (by rw [hy]; omega), hy, flatW_set r j x (by simpa using hj)]
    rw [show (j + 1) * 3 - 3 = j * 3 by omega, show (j + 1) * 3 + 1 - 3 = j * 3 + 1 by omega, show (j + 1) * 3 + 2 - 3 = j * 3 + 2 by omega]
theorem flatW_take (l : List Wy) (n : Nat) : (flatW l).take (n * 3) = flatW (l.take n) := by
  induction n generalizing l with
  | zero => simp [flatW]
  | succ n ih =>
    cases l with
    | nil => simp [flatW]
    | cons x r =>
      show (x.cells ++ flatW r).take ((n + 1) * 3) = x.cells ++ flatW (r.take n)
      have hx : x.cells.length = 3 := rfl
      rw [List.take_append, hx, List.take_of_length_le (by rw [hx]; omega), show (n + 1) * 3 - 3 = n * 3 by omega, ih r]
theorem wy_one (e : Wy) : ∀ u ∈ e.cells, u.oneCell' = true := by
  intro u hu
  simp only [Wy.cells, List.mem_cons, List.not_mem_nil, or_false] at hu
  rcases hu with rfl | rfl | rfl <;> rfl
def OwW (B : Nat) (w : World) (v : Value) (l : List Wy) : Prop := w.ownsRow B 68 3 v l.length (flatW l)
section
variable {B : Nat} {w : World} {g cap : Nat} {l : List Wy} {n : Nat}
theorem OwW.cell (h : OwW B w (.slice (some ⟨g, 0, none⟩) n cap) l) {j i : Nat} (hj : j < l.length) (hi : i < 3) : w.cell? ⟨g, j * 3 + i, none⟩ = (l.getD j wy0).cells[i]? := by
  have h3 : i < (l.getD j wy0).cells.length := hi
  rw [List.getElem?_eq_getElem h3]
  have := World.ownsRow.cells h (g := g) rfl (j * 3 + i) _ ((flatW_get l j i hj hi).trans (List.getElem?_eq_getElem h3))
  rwa [Addr.add_mid, Nat.zero_add] at this
theorem OwW.cells3 (h : OwW B w (.slice (some ⟨g, 0, none⟩) n cap) l) {j : Nat} (hj : j < l.length) : w.cell? ⟨g, j * 3, none⟩ = some (.int .i64 (l.getD j wy0).due) ∧ w.cell? ⟨g, j * 3 + 1, none⟩ = some (.int .i64 (l.getD j wy0).num) ∧ w.cell? ⟨g, j * 3 + 2, none⟩ = some (.slice (l.getD j wy0).a (l.getD j wy0).bs.length (l.getD j wy0).cap) :=
  ⟨h.cell hj (i := 0) (by omega), h.cell hj (i := 1) (by omega), h.cell hj (i := 2) (by omega)⟩
theorem OwW.row (h : OwW B w (.slice (some ⟨g, 0, none⟩) n cap) l) : n = l.length ∧ B ≤ g ∧ l.length ≤ cap ∧ ∃ cs, Blk w g 68 cs ∧ cs.length = cap * 3 ∧ cs.take (l.length * 3) = flatW l := by
  rcases h.2 with ⟨h1, _⟩ | ⟨k, c, cur, hv, hB, hg, hc, _, hs, ht⟩
  · cases h1
  · injection hv with e1 e2 e3
    injection e1 with e1
    injection e1 with e1
    subst e1 e2 e3
    exact ⟨rfl, hB, hc, cur.toList, by unfold Blk; simpa using hg, by simpa using hs, ht⟩
theorem OwW.free (h : OwW B w (.slice (some ⟨g, 0, none⟩) n cap) l) (i : Nat) : w.frozen? ⟨g, i, none⟩ = false := by
  obtain ⟨_, _, _, cs, hb, _⟩ := h.row
  exact hb.free i
theorem OwW.of_row {cs : List Value} (hB : B ≤ g) (hb : Blk w g 68 cs) (hl : l.length ≤ cap) (hm : cap ≤ maxLen) (hs : cs.length = cap * 3) (ht : cs.take (l.length * 3) = flatW l) : OwW B w (.slice (some ⟨g, 0, none⟩) l.length cap) l :=
  ⟨flatW_len l, .inr ⟨g, cap, cs.toArray, rfl, hB, hb, hl, hm, by simpa using hs, by simpa using ht⟩⟩
theorem OwW.set (h : OwW B w (.slice (some ⟨g, 0, none⟩) n cap) l) {j : Nat} (hj : j < l.length) (x : Wy) : OwW B (((w.setCell ⟨g, j * 3, none⟩ (.int .i64 x.due)).setCell ⟨g, j * 3 + 1, none⟩ (.int .i64 x.num)).setCell ⟨g, j * 3 + 2, none⟩ x.d) (.slice (some ⟨g, 0, none⟩) n cap) (l.set j x) := by
  obtain ⟨rfl, hB, hc, cs, hb, hs, ht⟩ := h.row
  have hm : cap ≤ maxLen := by
    rcases h.2 with ⟨h1, _⟩ | ⟨k, c, cur, hv, _, _, _, hm, _⟩
    · cases h1
    · injection hv with _ _ e3
      rw [e3]
      exact hm
  have hb3 := ((hb.set (j * 3) (.int .i64 x.due)).set (j * 3 + 1) (.int .i64 x.num)).set (j * 3 + 2) x.d
  have := OwW.of_row (l := l.set j x) hB hb3 (by simpa using hc) hm (by simpa using hs) (by
    rw [List.length_set, List.take_set, List.take_set, List.take_set, ht, flatW_set l j x hj])
  rwa [List.length_set] at this
theorem OwW.set0 (h : OwW B w (.slice (some ⟨g, 0, none⟩) n cap) l) (hj : 0 < l.length) (x : Wy) : OwW B (((w.setCell ⟨g, 0, none⟩ (.int .i64 x.due)).setCell ⟨g, 1, none⟩ (.int .i64 x.num)).setCell ⟨g, 2, none⟩ (.slice x.a x.bs.length x.cap)) (.slice (some ⟨g, 0, none⟩) n cap) (l.set 0 x) := h.set hj x
theorem OwW.drew {v : Value} (h : OwW B w v l) : OwW B w.drew v l := ownN_only h ((Only.refl Nil w).drew) fun _ _ => id
/-- What six stores leave. -/
def swapW (w : World) (g j i : Nat) (x y : Wy) : World :=
  ((((((w.setCell ⟨g, j * 3, none⟩ (.int .i64 x.due)).setCell ⟨g, j * 3 + 1, none⟩ (.int .i64 x.num)).setCell ⟨g, j * 3 + 2, none⟩ (.slice x.a x.bs.length x.cap)).setCell ⟨g, i * 3, none⟩ (.int .i64 y.due)).setCell ⟨g, i * 3 + 1, none⟩ (.int .i64 y.num)).setCell ⟨g, i * 3 + 2, none⟩ (.slice y.a y.bs.length y.cap)).drew
theorem OwW.swap (h : OwW B w (.slice (some ⟨g, 0, none⟩) n cap) l) {j i : Nat} (hj : j < l.length) (hi : i < l.length) (x y : Wy) : OwW B (swapW w g j i x y) (.slice (some ⟨g, 0, none⟩) n cap) ((l.set j x).set i y) :=
  ((h.set hj x).set (j := i) (by rw [List.length_set]; exact hi) y).drew
theorem only_swap {S : Nat → Prop} {w0 : World} (h : Only S w0 w) (hg : S g ∨ w0.heap.size ≤ g) (j i : Nat) (x y : Wy) : Only S w0 (swapW w g j i x y) :=
  ((((((h.setCell (p := ⟨g, _, none⟩) hg _).setCell (p := ⟨g, _, none⟩) hg _).setCell (p := ⟨g, _, none⟩) hg _).setCell (p := ⟨g, _, none⟩) hg _).setCell (p := ⟨g, _, none⟩) hg _).setCell (p := ⟨g, _, none⟩) hg _).drew
end
end Go.Proofs.Ytkkjnembjlgiaaa
