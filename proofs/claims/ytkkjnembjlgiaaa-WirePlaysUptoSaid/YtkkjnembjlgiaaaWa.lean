/-
  The wire's frames under way, in numbers; ahead, sum.
-/
import Derived.Test.YtkkjnembjlgiaaaRowN
namespace Go.Proofs.Ytkkjnembjlgiaaa
set_option maxRecDepth 100000
open Go.RowKit

/-- A frame under way: when it is due, the how-manieth it is, its bytes (a slice). -/
structure Wy where
  due : Int
  num : Int
  a : Option Addr
  cap : Nat
  bs : List UInt8
def Wy.d (e : Wy) : Value := .slice e.a e.bs.length e.cap
def Wy.cells (e : Wy) : List Value := [.int .i64 e.due, .int .i64 e.num, .slice e.a e.bs.length e.cap]
def Wy.v (e : Wy) : Value := .agg e.cells.toArray
def wy0 : Wy := ⟨0, 0, none, 0, []⟩
def aheadB (x y : Wy) : Bool := decide (x.due < y.due) || (decide (x.due = y.due) && decide (x.num < y.num))
theorem ahead_any (x y : Wy) (w : World) : Calls Try.prog 34 #[x.v, y.v] w fun e w' => e = .returned (.bool (aheadB x y)) ∧ Only Nil w w' := by
  obtain ⟨b, hb⟩ : ∃ b, w.heap.size = b := ⟨_, rfl⟩
  unfold aheadB
  obtain ⟨xd, xn, xa, xc, xb⟩ := x
  obtain ⟨yd, yn, ya, yc, yb⟩ := y
  unfold Wy.v Wy.cells
  dsimp only
  go_enter Try.func34, Try.ntmps34
  go_upto_region 1 with fail
  refine wp_gen (fun W => Only Nil w W ∧ Blk W b 68 [.int .i64 xd, .int .i64 xn, .slice xa xb.length xc] ∧ Blk W (b + 1) 68 [.int .i64 yd, .int .i64 yn, .slice ya yb.length yc]) ⟨((Only.refl Nil w).alloc _).alloc _, (hb ▸ Blk.new w _ _ : Blk (w.alloc _) b _ _).alloc _, by
    have := Blk.new (w.alloc (.cells #[.int .i64 xd, .int .i64 xn, .slice xa xb.length xc] 68)) 68 [.int .i64 yd, .int .i64 yn, .slice ya yb.length yc]
    rwa [World.size_alloc, hb] at this⟩ ?_
  clear hb
  rintro w1 ⟨ho, h1, h2⟩
  have HO := Lib.hid ho
  have a0 : w1.cell? ⟨b, 0, none⟩ = some (.int .i64 xd) := h1.cell 0
  have a1 : w1.cell? ⟨b, 1, none⟩ = some (.int .i64 xn) := h1.cell 1
  have b0 : w1.cell? ⟨b + 1, 0, none⟩ = some (.int .i64 yd) := h2.cell 0
  have b1 : w1.cell? ⟨b + 1, 1, none⟩ = some (.int .i64 yn) := h2.cell 1
  clear ho h1 h2
  by_cases d1 : xd < yd
  · go_wp2
    go_ret
    exact ⟨by simp [d1], HO.out⟩
  · by_cases d2 : xd = yd
    · by_cases d3 : xn < yn
      · go_wp2
        go_ret
        exact ⟨by simp, HO.out⟩
      · go_wp2
        go_ret
        exact ⟨by simp; omega, HO.out⟩
    · go_wp2
      go_ret
      exact ⟨by simp [d1], HO.out⟩
def sumZ (t k : Int) : Int := t + min (max k 0) (1125899906842624 - t)
theorem sum_any (t k : Int) (h0 : 0 ≤ t) (h1 : t ≤ 1125899906842624) (w : World) : Calls Try.prog 31 #[.int .i64 t, .int .i64 k] w fun e w' => e = .returned (.int .i64 (sumZ t k)) ∧ w' = w := by
  go_enter Try.func31, Try.ntmps31
  have HZ := Lib.hid (show sumZ t k = t + min (max k 0) (1125899906842624 - t) from rfl)
  go_wp2
  all_goals
    go_ret
    exact ⟨congrArg (fun z => Ending.returned (.int .i64 z)) (by rw [HZ.out]; omega), rfl⟩
end Go.Proofs.Ytkkjnembjlgiaaa
