/-
  An event of a trace, the judge's state; 'formed', 'may', 'right': what they answer.
-/
import Derived.Test.YthoaeolohnalnaaJa
namespace Go.Proofs.Ythoaeolohnalnaa
open Go.RowKit

structure Ev where
  kind : Int
  time : Int
  ip : Int
  till : Int
  why : Int
  len : Int
  a : Option Addr
  cap : Nat
  data : List UInt8
def Ev.cells (e : Ev) : List Value := [.int .i64 e.kind, .int .i64 e.time, .int .u32 e.ip, .int .i64 e.till, .int .i64 e.why, .int .i64 e.len, .slice e.a e.data.length e.cap]
def Ev.v (e : Ev) : Value := .agg #[.int .i64 e.kind, .int .i64 e.time, .int .u32 e.ip, .int .i64 e.till, .int .i64 e.why, .int .i64 e.len, .slice e.a e.data.length e.cap]
def Ev.d (e : Ev) : Value := .slice e.a e.data.length e.cap
structure Ev.ok (W : World) (e : Ev) : Prop where
  ip0 : 0 ≤ e.ip
  ip1 : e.ip < 4294967296
  rb : RB W e.d e.data
theorem Ev.ok.only {S : Nat → Prop} {W W' : World} {e : Ev} (h : e.ok W) (ho : Only S W W') (hS : ∀ g, blkOf e.d = some g → ¬ S g) : e.ok W' := ⟨h.ip0, h.ip1, h.rb.only ho hS⟩

def formedP (e : Ev) : Bool :=
  decide (1 ≤ e.kind) && (decide (e.kind ≤ 7) && (decide (0 ≤ e.time) && (decide (e.time ≤ 1125899906842624) && ((decide (e.ip = 0) || decide (2 ≤ e.kind ∧ e.kind ≤ 4)) && ((decide (e.till = 0) || decide (e.kind = 2)) && ((decide (e.why = 0) || decide (e.kind = 5)) &&
    ((decide (e.len = 0) || decide (e.kind = 6)) && (decide (e.data.length = 0) || decide (e.kind = 1)))))))))

set_option maxHeartbeats 3200000 in
set_option maxRecDepth 100000 in
theorem formed_any (e : Ev) (w : World) : Calls Try.prog 40 #[e.v] w fun r w' => r = .returned (.bool (formedP e)) ∧ Only Nil w w' := by
  obtain ⟨kind, time, ip, till, why, len, a, cap, data⟩ := e
  unfold Ev.v
  go_enter Try.func40, Try.ntmps40
  go_upto_region 3 with fail
  obtain ⟨b1, hb1⟩ : ∃ b, w.heap.size = b := ⟨_, rfl⟩
  refine wp_gen (fun W => Only Nil w W ∧ Blk W b1 48 [.int .i64 kind, .int .i64 time, .int .u32 ip, .int .i64 till, .int .i64 why, .int .i64 len, .slice a data.length cap] ∧ Blk W (b1 + 1) 48 [.int .i64 kind, .int .i64 time, .int .u32 0, .int .i64 0, .int .i64 0, .int .i64 0, .slice none 0 0])
    ⟨((Only.refl _ _).alloc _).alloc _, hb1 ▸ (Blk.new w _ _).alloc _, by
      have := Blk.new (w.alloc (.cells #[.int .i64 kind, .int .i64 time, .int .u32 ip, .int .i64 till, .int .i64 why, .int .i64 len, .slice a data.length cap] 48)) 48 [.int .i64 kind, .int .i64 time, .int .u32 0, .int .i64 0, .int .i64 0, .int .i64 0, .slice none 0 0]
      rw [World.size_alloc, hb1] at this
      exact this⟩ ?_
  rw [hb1]
  intro w1 ⟨ho, he, hf⟩
  have HO := Lib.hid ho
  have hlo : w.heap.size ≤ b1 := by omega
  clear ho hb1
  have e0 : w1.cell? ⟨b1, 0, none⟩ = some (.int .i64 kind) := he.cell 0
  have e1 : w1.cell? ⟨b1, 1, none⟩ = some (.int .i64 time) := he.cell 1
  have e2 : w1.cell? ⟨b1, 2, none⟩ = some (.int .u32 ip) := he.cell 2
  have e3 : w1.cell? ⟨b1, 3, none⟩ = some (.int .i64 till) := he.cell 3
  have e4 : w1.cell? ⟨b1, 4, none⟩ = some (.int .i64 why) := he.cell 4
  have e5 : w1.cell? ⟨b1, 5, none⟩ = some (.int .i64 len) := he.cell 5
  have e6 : w1.cell? ⟨b1, 6, none⟩ = some (.slice a data.length cap) := he.cell 6
  by_cases k1 : kind = 1
  · subst k1
    go_upto_region 17 with fail
    refine wp_gen (fun W => Only Nil w W ∧ Blk W b1 48 [.int .i64 1, .int .i64 time, .int .u32 ip, .int .i64 till, .int .i64 why, .int .i64 len, .slice a data.length cap] ∧ Blk W (b1 + 1) 48 [.int .i64 1, .int .i64 time, .int .u32 0, .int .i64 0, .int .i64 0, .int .i64 0, .slice none 0 0]) ⟨HO.out, he, hf⟩ ?_
    clear e0 e1 e2 e3 e4 e5 e6 he hf HO
    intro w2 ⟨ho, he, hf⟩
    have e0 : w2.cell? ⟨b1, 0, none⟩ = some (.int .i64 1) := he.cell 0
    have e1 : w2.cell? ⟨b1, 1, none⟩ = some (.int .i64 time) := he.cell 1
    have e2 : w2.cell? ⟨b1, 2, none⟩ = some (.int .u32 ip) := he.cell 2
    have e3 : w2.cell? ⟨b1, 3, none⟩ = some (.int .i64 till) := he.cell 3
    have e4 : w2.cell? ⟨b1, 4, none⟩ = some (.int .i64 why) := he.cell 4
    have e5 : w2.cell? ⟨b1, 5, none⟩ = some (.int .i64 len) := he.cell 5
    have e6 : w2.cell? ⟨b1, 6, none⟩ = some (.slice a data.length cap) := he.cell 6
    have f2 : w2.cell? ⟨b1 + 1, 2, none⟩ = some (.int .u32 0) := hf.cell 2
    have f3 : w2.cell? ⟨b1 + 1, 3, none⟩ = some (.int .i64 0) := hf.cell 3
    have f4 : w2.cell? ⟨b1 + 1, 4, none⟩ = some (.int .i64 0) := hf.cell 4
    have f5 : w2.cell? ⟨b1 + 1, 5, none⟩ = some (.int .i64 0) := hf.cell 5
    have HO := Lib.hid ho
    clear ho he hf
    go_wp2
    all_goals go_ret
    all_goals exact ⟨by refine congrArg (fun b => Ending.returned (Value.bool b)) ?_; rw [Bool.eq_iff_iff]; simp [formedP, -List.length_eq_zero_iff] <;> (try simp [-List.length_eq_zero_iff] at *) <;> (try omega), HO.out⟩
  by_cases k2 : kind = 2
  · subst k2
    have g2 := hf.free 2
    have g3 := hf.free 3
    go_upto_region 8 with fail
    have f2 : w1.cell? ⟨b1 + 1, 2, none⟩ = some (.int .u32 0) := hf.cell 2
    have f3 : w1.cell? ⟨b1 + 1, 3, none⟩ = some (.int .i64 0) := hf.cell 3
    go_region
    go_upto_region 17 with fail
    refine wp_gen (fun W => Only Nil w W ∧ Blk W b1 48 [.int .i64 2, .int .i64 time, .int .u32 ip, .int .i64 till, .int .i64 why, .int .i64 len, .slice a data.length cap] ∧ Blk W (b1 + 1) 48 [.int .i64 2, .int .i64 time, .int .u32 ip, .int .i64 till, .int .i64 0, .int .i64 0, .slice none 0 0]) ⟨((HO.out.setCell (.inr (by simp; omega)) _).setCell (.inr (by simp; omega)) _).drew, ((he.far (by simp) _).far (by simp) _), ((hf.set 2 _).set 3 _)⟩ ?_
    clear g2 g3 f2 f3 e0 e1 e2 e3 e4 e5 e6 he hf HO
    intro w2 ⟨ho, he, hf⟩
    have e0 : w2.cell? ⟨b1, 0, none⟩ = some (.int .i64 2) := he.cell 0
    have e1 : w2.cell? ⟨b1, 1, none⟩ = some (.int .i64 time) := he.cell 1
    have e2 : w2.cell? ⟨b1, 2, none⟩ = some (.int .u32 ip) := he.cell 2
    have e3 : w2.cell? ⟨b1, 3, none⟩ = some (.int .i64 till) := he.cell 3
    have e4 : w2.cell? ⟨b1, 4, none⟩ = some (.int .i64 why) := he.cell 4
    have e5 : w2.cell? ⟨b1, 5, none⟩ = some (.int .i64 len) := he.cell 5
    have e6 : w2.cell? ⟨b1, 6, none⟩ = some (.slice a data.length cap) := he.cell 6
    have f2 : w2.cell? ⟨b1 + 1, 2, none⟩ = some (.int .u32 ip) := hf.cell 2
    have f3 : w2.cell? ⟨b1 + 1, 3, none⟩ = some (.int .i64 till) := hf.cell 3
    have f4 : w2.cell? ⟨b1 + 1, 4, none⟩ = some (.int .i64 0) := hf.cell 4
    have f5 : w2.cell? ⟨b1 + 1, 5, none⟩ = some (.int .i64 0) := hf.cell 5
    have HO := Lib.hid ho
    clear ho he hf
    go_wp2
    all_goals go_ret
    all_goals exact ⟨by refine congrArg (fun b => Ending.returned (Value.bool b)) ?_; rw [Bool.eq_iff_iff]; simp [formedP, -List.length_eq_zero_iff] <;> (try simp [-List.length_eq_zero_iff] at *) <;> (try omega), HO.out⟩
  by_cases k3 : kind = 3
  · subst k3
    have g2 := hf.free 2
    have f2 : w1.cell? ⟨b1 + 1, 2, none⟩ = some (.int .u32 0) := hf.cell 2
    go_upto_region 17 with fail
    refine wp_gen (fun W => Only Nil w W ∧ Blk W b1 48 [.int .i64 3, .int .i64 time, .int .u32 ip, .int .i64 till, .int .i64 why, .int .i64 len, .slice a data.length cap] ∧ Blk W (b1 + 1) 48 [.int .i64 3, .int .i64 time, .int .u32 ip, .int .i64 0, .int .i64 0, .int .i64 0, .slice none 0 0]) ⟨(HO.out.setCell (.inr (by simp; omega)) _), (he.far (by simp) _), (hf.set 2 _)⟩ ?_
    clear g2 f2 e0 e1 e2 e3 e4 e5 e6 he hf HO
    intro w2 ⟨ho, he, hf⟩
    have e0 : w2.cell? ⟨b1, 0, none⟩ = some (.int .i64 3) := he.cell 0
    have e1 : w2.cell? ⟨b1, 1, none⟩ = some (.int .i64 time) := he.cell 1
    have e2 : w2.cell? ⟨b1, 2, none⟩ = some (.int .u32 ip) := he.cell 2
    have e3 : w2.cell? ⟨b1, 3, none⟩ = some (.int .i64 till) := he.cell 3
    have e4 : w2.cell? ⟨b1, 4, none⟩ = some (.int .i64 why) := he.cell 4
    have e5 : w2.cell? ⟨b1, 5, none⟩ = some (.int .i64 len) := he.cell 5
    have e6 : w2.cell? ⟨b1, 6, none⟩ = some (.slice a data.length cap) := he.cell 6
    have f2 : w2.cell? ⟨b1 + 1, 2, none⟩ = some (.int .u32 ip) := hf.cell 2
    have f3 : w2.cell? ⟨b1 + 1, 3, none⟩ = some (.int .i64 0) := hf.cell 3
    have f4 : w2.cell? ⟨b1 + 1, 4, none⟩ = some (.int .i64 0) := hf.cell 4
    have f5 : w2.cell? ⟨b1 + 1, 5, none⟩ = some (.int .i64 0) := hf.cell 5
    have HO := Lib.hid ho
    clear ho he hf
    go_wp2
    all_goals go_ret
    all_goals exact ⟨by refine congrArg (fun b => Ending.returned (Value.bool b)) ?_; rw [Bool.eq_iff_iff]; simp [formedP, -List.length_eq_zero_iff] <;> (try simp [-List.length_eq_zero_iff] at *) <;> (try omega), HO.out⟩
  by_cases k4 : kind = 4
  · subst k4
    have g2 := hf.free 2
    have f2 : w1.cell? ⟨b1 + 1, 2, none⟩ = some (.int .u32 0) := hf.cell 2
    go_upto_region 17 with fail
    refine wp_gen (fun W => Only Nil w W ∧ Blk W b1 48 [.int .i64 4, .int .i64 time, .int .u32 ip, .int .i64 till, .int .i64 why, .int .i64 len, .slice a data.length cap] ∧ Blk W (b1 + 1) 48 [.int .i64 4, .int .i64 time, .int .u32 ip, .int .i64 0, .int .i64 0, .int .i64 0, .slice none 0 0]) ⟨(HO.out.setCell (.inr (by simp; omega)) _), (he.far (by simp) _), (hf.set 2 _)⟩ ?_
    clear g2 f2 e0 e1 e2 e3 e4 e5 e6 he hf HO
    intro w2 ⟨ho, he, hf⟩
    have e0 : w2.cell? ⟨b1, 0, none⟩ = some (.int .i64 4) := he.cell 0
    have e1 : w2.cell? ⟨b1, 1, none⟩ = some (.int .i64 time) := he.cell 1
    have e2 : w2.cell? ⟨b1, 2, none⟩ = some (.int .u32 ip) := he.cell 2
    have e3 : w2.cell? ⟨b1, 3, none⟩ = some (.int .i64 till) := he.cell 3
    have e4 : w2.cell? ⟨b1, 4, none⟩ = some (.int .i64 why) := he.cell 4
    have e5 : w2.cell? ⟨b1, 5, none⟩ = some (.int .i64 len) := he.cell 5
    have e6 : w2.cell? ⟨b1, 6, none⟩ = some (.slice a data.length cap) := he.cell 6
    have f2 : w2.cell? ⟨b1 + 1, 2, none⟩ = some (.int .u32 ip) := hf.cell 2
    have f3 : w2.cell? ⟨b1 + 1, 3, none⟩ = some (.int .i64 0) := hf.cell 3
    have f4 : w2.cell? ⟨b1 + 1, 4, none⟩ = some (.int .i64 0) := hf.cell 4
    have f5 : w2.cell? ⟨b1 + 1, 5, none⟩ = some (.int .i64 0) := hf.cell 5
    have HO := Lib.hid ho
    clear ho he hf
    go_wp2
    all_goals go_ret
    all_goals exact ⟨by refine congrArg (fun b => Ending.returned (Value.bool b)) ?_; rw [Bool.eq_iff_iff]; simp [formedP, -List.length_eq_zero_iff] <;> (try simp [-List.length_eq_zero_iff] at *) <;> (try omega), HO.out⟩
  by_cases k5 : kind = 5
  · subst k5
    have g4 := hf.free 4
    have f4 : w1.cell? ⟨b1 + 1, 4, none⟩ = some (.int .i64 0) := hf.cell 4
    go_upto_region 17 with fail
    refine wp_gen (fun W => Only Nil w W ∧ Blk W b1 48 [.int .i64 5, .int .i64 time, .int .u32 ip, .int .i64 till, .int .i64 why, .int .i64 len, .slice a data.length cap] ∧ Blk W (b1 + 1) 48 [.int .i64 5, .int .i64 time, .int .u32 0, .int .i64 0, .int .i64 why, .int .i64 0, .slice none 0 0]) ⟨(HO.out.setCell (.inr (by simp; omega)) _), (he.far (by simp) _), (hf.set 4 _)⟩ ?_
    clear g4 f4 e0 e1 e2 e3 e4 e5 e6 he hf HO
    intro w2 ⟨ho, he, hf⟩
    have e0 : w2.cell? ⟨b1, 0, none⟩ = some (.int .i64 5) := he.cell 0
    have e1 : w2.cell? ⟨b1, 1, none⟩ = some (.int .i64 time) := he.cell 1
    have e2 : w2.cell? ⟨b1, 2, none⟩ = some (.int .u32 ip) := he.cell 2
    have e3 : w2.cell? ⟨b1, 3, none⟩ = some (.int .i64 till) := he.cell 3
    have e4 : w2.cell? ⟨b1, 4, none⟩ = some (.int .i64 why) := he.cell 4
    have e5 : w2.cell? ⟨b1, 5, none⟩ = some (.int .i64 len) := he.cell 5
    have e6 : w2.cell? ⟨b1, 6, none⟩ = some (.slice a data.length cap) := he.cell 6
    have f2 : w2.cell? ⟨b1 + 1, 2, none⟩ = some (.int .u32 0) := hf.cell 2
    have f3 : w2.cell? ⟨b1 + 1, 3, none⟩ = some (.int .i64 0) := hf.cell 3
    have f4 : w2.cell? ⟨b1 + 1, 4, none⟩ = some (.int .i64 why) := hf.cell 4
    have f5 : w2.cell? ⟨b1 + 1, 5, none⟩ = some (.int .i64 0) := hf.cell 5
    have HO := Lib.hid ho
    clear ho he hf
    go_wp2
    all_goals go_ret
    all_goals exact ⟨by refine congrArg (fun b => Ending.returned (Value.bool b)) ?_; rw [Bool.eq_iff_iff]; simp [formedP, -List.length_eq_zero_iff] <;> (try simp [-List.length_eq_zero_iff] at *) <;> (try omega), HO.out⟩
  by_cases k6 : kind = 6
  · subst k6
    have g5 := hf.free 5
    have f5 : w1.cell? ⟨b1 + 1, 5, none⟩ = some (.int .i64 0) := hf.cell 5
    go_upto_region 17 with fail
    refine wp_gen (fun W => Only Nil w W ∧ Blk W b1 48 [.int .i64 6, .int .i64 time, .int .u32 ip, .int .i64 till, .int .i64 why, .int .i64 len, .slice a data.length cap] ∧ Blk W (b1 + 1) 48 [.int .i64 6, .int .i64 time, .int .u32 0, .int .i64 0, .int .i64 0, .int .i64 len, .slice none 0 0]) ⟨(HO.out.setCell (.inr (by simp; omega)) _), (he.far (by simp) _), (hf.set 5 _)⟩ ?_
    clear g5 f5 e0 e1 e2 e3 e4 e5 e6 he hf HO
    intro w2 ⟨ho, he, hf⟩
    have e0 : w2.cell? ⟨b1, 0, none⟩ = some (.int .i64 6) := he.cell 0
    have e1 : w2.cell? ⟨b1, 1, none⟩ = some (.int .i64 time) := he.cell 1
    have e2 : w2.cell? ⟨b1, 2, none⟩ = some (.int .u32 ip) := he.cell 2
    have e3 : w2.cell? ⟨b1, 3, none⟩ = some (.int .i64 till) := he.cell 3
    have e4 : w2.cell? ⟨b1, 4, none⟩ = some (.int .i64 why) := he.cell 4
    have e5 : w2.cell? ⟨b1, 5, none⟩ = some (.int .i64 len) := he.cell 5
    have e6 : w2.cell? ⟨b1, 6, none⟩ = some (.slice a data.length cap) := he.cell 6
    have f2 : w2.cell? ⟨b1 + 1, 2, none⟩ = some (.int .u32 0) := hf.cell 2
    have f3 : w2.cell? ⟨b1 + 1, 3, none⟩ = some (.int .i64 0) := hf.cell 3
    have f4 : w2.cell? ⟨b1 + 1, 4, none⟩ = some (.int .i64 0) := hf.cell 4
    have f5 : w2.cell? ⟨b1 + 1, 5, none⟩ = some (.int .i64 len) := hf.cell 5
    have HO := Lib.hid ho
    clear ho he hf
    go_wp2
    all_goals go_ret
    all_goals exact ⟨by refine congrArg (fun b => Ending.returned (Value.bool b)) ?_; rw [Bool.eq_iff_iff]; simp [formedP, -List.length_eq_zero_iff] <;> (try simp [-List.length_eq_zero_iff] at *) <;> (try omega), HO.out⟩
  by_cases k7 : kind = 7
  · subst k7
    go_upto_region 17 with fail
    refine wp_gen (fun W => Only Nil w W ∧ Blk W b1 48 [.int .i64 7, .int .i64 time, .int .u32 ip, .int .i64 till, .int .i64 why, .int .i64 len, .slice a data.length cap] ∧ Blk W (b1 + 1) 48 [.int .i64 7, .int .i64 time, .int .u32 0, .int .i64 0, .int .i64 0, .int .i64 0, .slice none 0 0]) ⟨HO.out, he, hf⟩ ?_
    clear e0 e1 e2 e3 e4 e5 e6 he hf HO
    intro w2 ⟨ho, he, hf⟩
    have e0 : w2.cell? ⟨b1, 0, none⟩ = some (.int .i64 7) := he.cell 0
    have e1 : w2.cell? ⟨b1, 1, none⟩ = some (.int .i64 time) := he.cell 1
    have e2 : w2.cell? ⟨b1, 2, none⟩ = some (.int .u32 ip) := he.cell 2
    have e3 : w2.cell? ⟨b1, 3, none⟩ = some (.int .i64 till) := he.cell 3
    have e4 : w2.cell? ⟨b1, 4, none⟩ = some (.int .i64 why) := he.cell 4
    have e5 : w2.cell? ⟨b1, 5, none⟩ = some (.int .i64 len) := he.cell 5
    have e6 : w2.cell? ⟨b1, 6, none⟩ = some (.slice a data.length cap) := he.cell 6
    have f2 : w2.cell? ⟨b1 + 1, 2, none⟩ = some (.int .u32 0) := hf.cell 2
    have f3 : w2.cell? ⟨b1 + 1, 3, none⟩ = some (.int .i64 0) := hf.cell 3
    have f4 : w2.cell? ⟨b1 + 1, 4, none⟩ = some (.int .i64 0) := hf.cell 4
    have f5 : w2.cell? ⟨b1 + 1, 5, none⟩ = some (.int .i64 0) := hf.cell 5
    have HO := Lib.hid ho
    clear ho he hf
    go_wp2
    all_goals go_ret
    all_goals exact ⟨by refine congrArg (fun b => Ending.returned (Value.bool b)) ?_; rw [Bool.eq_iff_iff]; simp [formedP, -List.length_eq_zero_iff] <;> (try simp [-List.length_eq_zero_iff] at *) <;> (try omega), HO.out⟩
  · go_wp2
    go_ret
    exact ⟨by refine congrArg (fun b => Ending.returned (Value.bool b)) ?_; rw [Bool.eq_iff_iff]; simp [formedP, -List.length_eq_zero_iff] <;> (try simp [-List.length_eq_zero_iff] at *) <;> (try omega), HO.out⟩
end Go.Proofs.Ythoaeolohnalnaa
