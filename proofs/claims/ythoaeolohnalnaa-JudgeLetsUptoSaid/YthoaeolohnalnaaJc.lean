/-
  The judge's state in memory; 'may' and 'right'.
-/
import Derived.Test.YthoaeolohnalnaaJb
namespace Go.Proofs.Ythoaeolohnalnaa
open Go.RowKit

/-- A configuration: of it the judge looks at the address, the greatest length and the attempts. -/
structure Cfg where
  mac : List UInt8
  mid : List Value
  most : Int
  blk : Value
  win : Value
  att : Int
def Cfg.cells (c : Cfg) : List Value := BC c.mac ++ (c.mid ++ [.int .i64 c.most, c.blk, c.win, .int .i64 c.att])
structure Cfg.ok (c : Cfg) : Prop where
  mac : c.mac.length = 6
  mid : c.mid.length = 35
  one : ∀ v ∈ c.cells, v.oneCell' = true
theorem Cfg.ok.length {c : Cfg} (h : c.ok) : c.cells.length = 45 := by unfold Cfg.cells; simp [BC_length, h.mac, h.mid]
structure Lk where
  now : Int
  held : Bool
  ip : Int
  till : Int
  under : Bool
  over : Bool
  fails : Int
  ready : Int
  awaited : Int
def Lk.tail (s : Lk) : List Value := [.int .i64 s.now, .bool s.held, .int .u32 s.ip, .int .i64 s.till, .bool s.under, .bool s.over, .int .i64 s.fails, .int .i64 s.ready, .int .i64 s.awaited]
/-- The judge's state in block g. -/
def LkAt (W : World) (g : Nat) (c : Cfg) (s : Lk) : Prop := c.ok ∧ Blk W g 66 (c.cells ++ s.tail)
section
variable {W W' : World} {g : Nat} {c : Cfg} {s : Lk}
theorem LkAt.lt (h : LkAt W g c s) : g < W.heap.size := h.2.lt
theorem LkAt.only {S : Nat → Prop} (h : LkAt W g c s) (ho : Only S W W') (hS : ¬ S g) : LkAt W' g c s := ⟨h.1, ho.blk h.2 hS⟩
theorem LkAt.free (h : LkAt W g c s) (i : Nat) : W.frozen? ⟨g, i, none⟩ = false := h.2.free i
theorem LkAt.at (h : LkAt W g c s) (i : Nat) : W.cell? ⟨g, 45 + i, none⟩ = s.tail[i]? := by
  have := h.2.cell (45 + i)
  rw [List.getElem?_append_right (by rw [h.1.length]; omega), h.1.length, Nat.add_sub_cancel_left] at this
  exact this
theorem LkAt.cNow (h : LkAt W g c s) : W.cell? ⟨g, 45, none⟩ = some (.int .i64 s.now) := h.at 0
theorem LkAt.cHeld (h : LkAt W g c s) : W.cell? ⟨g, 46, none⟩ = some (.bool s.held) := h.at 1
theorem LkAt.cIp (h : LkAt W g c s) : W.cell? ⟨g, 47, none⟩ = some (.int .u32 s.ip) := h.at 2
theorem LkAt.cTill (h : LkAt W g c s) : W.cell? ⟨g, 48, none⟩ = some (.int .i64 s.till) := h.at 3
theorem LkAt.cUnder (h : LkAt W g c s) : W.cell? ⟨g, 49, none⟩ = some (.bool s.under) := h.at 4
theorem LkAt.cOver (h : LkAt W g c s) : W.cell? ⟨g, 50, none⟩ = some (.bool s.over) := h.at 5
theorem LkAt.cFails (h : LkAt W g c s) : W.cell? ⟨g, 51, none⟩ = some (.int .i64 s.fails) := h.at 6
theorem LkAt.cReady (h : LkAt W g c s) : W.cell? ⟨g, 52, none⟩ = some (.int .i64 s.ready) := h.at 7
theorem LkAt.cAwaited (h : LkAt W g c s) : W.cell? ⟨g, 53, none⟩ = some (.int .i64 s.awaited) := h.at 8
theorem LkAt.low (h : LkAt W g c s) (i : Nat) (hi : i < 45) : W.cell? ⟨g, i, none⟩ = c.cells[i]? := by
  have := h.2.cell i
  rwa [List.getElem?_append_left (by rw [h.1.length]; exact hi)] at this
theorem LkAt.cMac (h : LkAt W g c s) (i : Nat) (hi : i < 6) : W.cell? ⟨g, i, none⟩ = some (.int .u8 (by8 (c.mac.getD i 0))) := by
  rw [h.low i (by omega)]
  unfold Cfg.cells
  rw [List.getElem?_append_left (by rw [BC_length, h.1.mac]; exact hi)]
  exact BC_get _ _ (by rw [h.1.mac]; exact hi)
theorem LkAt.cMost (h : LkAt W g c s) : W.cell? ⟨g, 41, none⟩ = some (.int .i64 c.most) := by
  rw [h.low 41 (by omega)]
  unfold Cfg.cells
  rw [List.getElem?_append_right (by rw [BC_length, h.1.mac]; omega), BC_length, h.1.mac, List.getElem?_append_right (by rw [h.1.mid]; omega), h.1.mid]
  rfl
theorem LkAt.cAtt (h : LkAt W g c s) : W.cell? ⟨g, 44, none⟩ = some (.int .i64 c.att) := by
  rw [h.low 44 (by omega)]
  unfold Cfg.cells
  rw [List.getElem?_append_right (by rw [BC_length, h.1.mac]; omega), BC_length, h.1.mac, List.getElem?_append_right (by rw [h.1.mid]; omega), h.1.mid]
  rfl
theorem LkAt.put (h : LkAt W g c s) (i : Nat) (v : Value) (s' : Lk) (hs : s.tail.set i v = s'.tail) : LkAt (W.setCell ⟨g, 45 + i, none⟩ v) g c s' := by
  refine ⟨h.1, ?_⟩
  have := h.2.set (45 + i) v
  rw [List.set_append_right _ _ (by rw [h.1.length]; omega), h.1.length, Nat.add_sub_cancel_left, hs] at this
  exact this
theorem LkAt.pNow (h : LkAt W g c s) (x : Int) : LkAt (W.setCell ⟨g, 45, none⟩ (.int .i64 x)) g c { s with now := x } := h.put 0 _ _ rfl
theorem LkAt.pHeld (h : LkAt W g c s) (x : Bool) : LkAt (W.setCell ⟨g, 46, none⟩ (.bool x)) g c { s with held := x } := h.put 1 _ _ rfl
theorem LkAt.pIp (h : LkAt W g c s) (x : Int) : LkAt (W.setCell ⟨g, 47, none⟩ (.int .u32 x)) g c { s with ip := x } := h.put 2 _ _ rfl
theorem LkAt.pTill (h : LkAt W g c s) (x : Int) : LkAt (W.setCell ⟨g, 48, none⟩ (.int .i64 x)) g c { s with till := x } := h.put 3 _ _ rfl
theorem LkAt.pUnder (h : LkAt W g c s) (x : Bool) : LkAt (W.setCell ⟨g, 49, none⟩ (.bool x)) g c { s with under := x } := h.put 4 _ _ rfl
theorem LkAt.pOver (h : LkAt W g c s) (x : Bool) : LkAt (W.setCell ⟨g, 50, none⟩ (.bool x)) g c { s with over := x } := h.put 5 _ _ rfl
theorem LkAt.pFails (h : LkAt W g c s) (x : Int) : LkAt (W.setCell ⟨g, 51, none⟩ (.int .i64 x)) g c { s with fails := x } := h.put 6 _ _ rfl
theorem LkAt.pReady (h : LkAt W g c s) (x : Int) : LkAt (W.setCell ⟨g, 52, none⟩ (.int .i64 x)) g c { s with ready := x } := h.put 7 _ _ rfl
theorem LkAt.pAwaited (h : LkAt W g c s) (x : Int) : LkAt (W.setCell ⟨g, 53, none⟩ (.int .i64 x)) g c { s with awaited := x } := h.put 8 _ _ rfl
end
def mayP (s : Lk) (t : Int) : Bool := !s.over && (!s.under && (s.held && decide (s.ready ≤ t)))
theorem may_any (g : Nat) (c : Cfg) (s : Lk) (t : Int) (w : World) (h : LkAt w g c s) : Calls Try.prog 61 #[.pointer (some ⟨g, 0, none⟩), .int .i64 t] w fun r w' => r = .returned (.bool (mayP s t)) ∧ w = w' := by
  have c2 := h.cHeld
  have c5 := h.cUnder
  have c6 := h.cOver
  have c8 := h.cReady
  obtain ⟨now, held, ip, till, under, over, fails, ready, awaited⟩ := s
  clear h
  cases over <;> cases under <;> cases held
  all_goals
    go_enter Try.func61, Try.ntmps61
    go_wp2
  all_goals go_ret
  all_goals exact ⟨rfl, rfl⟩
def rightP (s : Lk) (e : Ev) : Bool :=
  if s.awaited = 5 then decide (e.kind = 5 ∧ e.why = 6) && decide (e.time = s.now) else if s.awaited = 7 then decide (e.kind = 7) && decide (e.time = s.now) else !decide (e.kind = 7) && !decide (e.kind = 5 ∧ e.why = 6)
end Go.Proofs.Ythoaeolohnalnaa
