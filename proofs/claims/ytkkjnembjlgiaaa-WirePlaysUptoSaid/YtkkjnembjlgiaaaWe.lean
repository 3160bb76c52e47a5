/-
  The wire in memory (what it owns), and its small methods: New, Len, Lost, Next, move.
-/
import Derived.Test.YtkkjnembjlgiaaaWd
import Derived.Maps.AppendAt
namespace Go.Proofs.Ytkkjnembjlgiaaa
set_option maxRecDepth 100000
open Go.RowKit

structure Ft where
  lost : Bool
  delay : Int
  twin : Int
def Ft.cells (f : Ft) : List Value := [.bool f.lost, .int .i64 f.delay, .int .i64 f.twin]
def ft0 : Ft := ⟨false, 0, 0⟩
def flatF (l : List Ft) : List Value := l.flatMap Ft.cells
theorem flatF_len (l : List Ft) : (flatF l).length = l.length * 3 := by
  induction l with
  | nil => rfl
  | cons x r ih =>
    show (x.cells ++ flatF r).length = (r.length + 1) * 3
    rw [List.length_append, ih, show x.cells.length = 3 from rfl]
    omega
theorem flatF_append (l m : List Ft) : flatF (l ++ m) = flatF l ++ flatF m := by simp [flatF]
def OwnB (B : Nat) (w : World) (v : Value) (bs : List UInt8) : Prop := w.ownsRow B 5 1 v bs.length (BC bs)
/-- The fates that are left: the end of a row of the wire's own. -/
def OwF (B : Nat) (w : World) (v : Value) (l : List Ft) : Prop :=
  (v = .slice none 0 0 ∧ l = []) ∨ ∃ g o cap cs, v = .slice (some ⟨g, o, none⟩) l.length cap ∧ B ≤ g ∧ Blk w g 46 cs ∧ l.length ≤ cap ∧ cap ≤ maxLen ∧ o + cap * 3 ≤ cs.length ∧ (cs.drop o).take (l.length * 3) = flatF l
structure WS where
  now : Int
  laid : Int
  lost : Int
  ways : List Wy
  fates : List Ft
def ws0 : WS := ⟨0, 0, 0, [], []⟩
def wcells (s : WS) (vw vf : Value) : List Value := [.int .i64 s.now, .int .i64 s.laid, .int .i64 s.lost, vw, vf]
def Far (x y : Wy) : Prop := ∀ k, x.d.ownBlock = some k → y.d.ownBlock ≠ some k
theorem Far.symm {x y : Wy} (h : Far x y) : Far y x := fun k h1 h2 => h k h2 h1
structure WireAt (B : Nat) (w : World) (F : Nat → Prop) (b : Nat) (vw vf : Value) (s : WS) : Prop where
  blk : Blk w b 56 (wcells s vw vf)
  ways : OwW B w vw s.ways
  fates : OwF B w vf s.fates
  each : ∀ e ∈ s.ways, OwnB B w e.d e.bs
  far : s.ways.Pairwise Far
  foot : F b ∧ (∀ k, vw.ownBlock = some k → F k) ∧ (∀ k, vf.ownBlock = some k → F k) ∧ ∀ e ∈ s.ways, ∀ k, e.d.ownBlock = some k → F k
structure IsWire (B : Nat) (w : World) (F : Nat → Prop) (b : Nat) (s : WS) : Prop where
  at' : ∃ vw vf, WireAt B w F b vw vf s
  own : ∀ k, F k → B ≤ k ∧ k < w.heap.size
  base : B ≤ w.heap.size
def Wide (F : Nat → Prop) (w w' : World) : Nat → Prop := fun k => F k ∨ (w.heap.size ≤ k ∧ k < w'.heap.size)
section
variable {B : Nat} {w w' : World} {F S : Nat → Prop} {b : Nat} {vw vf : Value} {s : WS}
theorem OwF.only {v : Value} {l : List Ft} (h : OwF B w v l) (ho : Only S w w') (hS : ∀ k, v.ownBlock = some k → ¬ S k) : OwF B w' v l := by
  rcases h with h | ⟨g, o, cap, cs, rfl, hB, hb, r⟩
  · exact .inl h
  · exact .inr ⟨g, o, cap, cs, rfl, hB, ho.blk hb (hS g rfl), r⟩
theorem WireAt.only (h : WireAt B w F b vw vf s) (ho : Only S w w') (hS : ∀ k, F k → ¬ S k) : WireAt B w' F b vw vf s :=
  ⟨ho.blk h.blk (hS b h.foot.1), ownN_only h.ways ho fun k hk => hS k (h.foot.2.1 k hk), h.fates.only ho fun k hk => hS k (h.foot.2.2.1 k hk),
    fun e he => own_only (h.each e he) ho fun k hk => hS k (h.foot.2.2.2 e he k hk), h.far, h.foot⟩
theorem IsWire.only (h : IsWire B w F b s) (ho : Only S w w') (hS : ∀ k, F k → ¬ S k) : IsWire B w' F b s := by
  obtain ⟨vw, vf, hA⟩ := h.at'
  exact ⟨⟨vw, vf, hA.only ho hS⟩, fun k hk => ⟨(h.own k hk).1, Nat.lt_of_lt_of_le (h.own k hk).2 ho.size⟩, Nat.le_trans h.base ho.size⟩
theorem WireAt.c0 (h : WireAt B w F b vw vf s) : w.cell? ⟨b, 0, none⟩ = some (.int .i64 s.now) := h.blk.cell 0
theorem WireAt.c1 (h : WireAt B w F b vw vf s) : w.cell? ⟨b, 1, none⟩ = some (.int .i64 s.laid) := h.blk.cell 1
theorem WireAt.c2 (h : WireAt B w F b vw vf s) : w.cell? ⟨b, 2, none⟩ = some (.int .i64 s.lost) := h.blk.cell 2
theorem WireAt.c3 (h : WireAt B w F b vw vf s) : w.cell? ⟨b, 3, none⟩ = some vw := h.blk.cell 3
theorem WireAt.c4 (h : WireAt B w F b vw vf s) : w.cell? ⟨b, 4, none⟩ = some vf := h.blk.cell 4
theorem OwW.form {v : Value} {l : List Wy} (h : OwW B w v l) : (v = .slice none 0 0 ∧ l = []) ∨ ∃ g cap, v = .slice (some ⟨g, 0, none⟩) l.length cap := by
  rcases h.2 with ⟨h1, h2⟩ | ⟨g, cap, cur, h1, _⟩
  · exact .inl ⟨h1, List.eq_nil_of_length_eq_zero h2⟩
  · exact .inr ⟨g, cap, h1⟩
theorem OwW.slice {v : Value} {l : List Wy} (h : OwW B w v l) : ∃ A cap, v = .slice A l.length cap := by
  rcases h.form with ⟨h1, h2⟩ | ⟨g, cap, h1⟩
  · exact ⟨none, 0, by rw [h1, h2]; rfl⟩
  · exact ⟨_, _, h1⟩
theorem len_any (h : IsWire B w F b s) : Calls Try.prog 16 #[.pointer (some ⟨b, 0, none⟩)] w fun e w' => e = .returned (.int .i64 (s.ways.length : Int)) ∧ w' = w := by
  obtain ⟨vw, vf, hA⟩ := h.at'
  have c3 := hA.c3
  obtain ⟨A, cap, rfl⟩ := hA.ways.slice
  clear hA h
  go_enter Try.func16, Try.ntmps16
  go_wp2
  go_ret
  exact ⟨rfl, rfl⟩
theorem lost_any (h : IsWire B w F b s) : Calls Try.prog 17 #[.pointer (some ⟨b, 0, none⟩)] w fun e w' => e = .returned (.int .i64 s.lost) ∧ w' = w := by
  obtain ⟨vw, vf, hA⟩ := h.at'
  have c2 := hA.c2
  clear hA h
  go_enter Try.func17, Try.ntmps17
  go_wp2
  go_ret
  exact ⟨rfl, rfl⟩
def nextP (s : WS) : Int × Bool := if s.ways.length = 0 then (0, false) else ((s.ways.getD 0 wy0).due, true)
theorem next_any (h : IsWire B w F b s) : Calls Try.prog 15 #[.pointer (some ⟨b, 0, none⟩)] w fun e w' => e = .returned (.tuple #[.int .i64 (nextP s).1, .bool (nextP s).2]) ∧ w' = w := by
  obtain ⟨vw, vf, hA⟩ := h.at'
  have c3 := hA.c3
  have HN := Lib.hid (show nextP s = if s.ways.length = 0 then (0, false) else ((s.ways.getD 0 wy0).due, true) from rfl)
  rcases hA.ways.form with ⟨rfl, h2⟩ | ⟨g, cap, rfl⟩
  · have HL := Lib.hid h2
    clear hA h h2
    go_enter Try.func15, Try.ntmps15
    go_wp2
    go_ret2
    exact ⟨by rw [HN.out, HL.out]; rfl, rfl⟩
  · by_cases h0 : s.ways.length = 0
    · have HL := Lib.hid h0
      rw [h0] at c3
      clear hA h h0
      go_enter Try.func15, Try.ntmps15
      go_wp2
      go_ret2
      exact ⟨by rw [HN.out, HL.out]; rfl, rfl⟩
    · obtain ⟨p0, _, _⟩ := hA.ways.cells3 (j := 0) (by omega)
      rw [Nat.zero_mul] at p0
      have HL := Lib.hid h0
      have h1 : 0 < s.ways.length := by omega
      have h2 : ¬ (s.ways.length : Int) = 0 := by omega
      generalize s.ways.getD 0 wy0 = x at *
      generalize s.ways.length = n at *
      clear hA h h0
      go_enter Try.func15, Try.ntmps15
      go_wp2
      go_ret2
      exact ⟨by rw [HN.out, if_neg HL.out]; rfl, rfl⟩
/-- A new one. -/
theorem new_any (w : World) (B : Nat) (hB : B ≤ w.heap.size) : Calls Try.prog 8 #[] w fun e w' => ∃ b F, e = .returned (.pointer (some ⟨b, 0, none⟩)) ∧ IsWire B w' F b ws0 ∧ Only Nil w w' ∧ ∀ k, F k → w.heap.size ≤ k := by
  have HB := Lib.hid hB
  clear hB
  obtain ⟨n, hn⟩ : ∃ b, w.heap.size = b := ⟨_, rfl⟩
  go_enter Try.func8, Try.ntmps8
  go_wp2
  go_ret
  refine ⟨n, One n, by rw [← hn]; rfl, ⟨⟨.slice none 0 0, .slice none 0 0, hn ▸ Blk.new w _ _, ⟨rfl, .inl ⟨rfl, rfl⟩⟩, .inl ⟨rfl, rfl⟩, fun e h => (by cases h), List.Pairwise.nil, ⟨rfl, fun k h => (by cases h), fun k h => (by cases h), fun e h => (by cases h)⟩⟩, fun k hk => ?_, ?_⟩, (Only.refl _ _).alloc _, fun k hk => by rw [show k = n from hk]; omega⟩
  · rw [show k = n from hk, World.size_alloc]
    have := HB.out
    omega
  · rw [World.size_alloc]
    have := HB.out
    omega
end
end Go.Proofs.Ytkkjnembjlgiaaa
