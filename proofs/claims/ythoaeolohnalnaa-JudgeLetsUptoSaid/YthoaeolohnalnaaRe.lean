/-
  The reference's rule 1: 'formed' is the judge's.
-/
import Derived.Test.YthoaeolohnalnaaRd
namespace Go.Proofs.Ythoaeolohnalnaa
open Go.RowKit

set_option maxHeartbeats 3200000 in
set_option maxRecDepth 100000 in
theorem rformed_any (e : Ev) (w : World) : Calls Try.prog 44 #[e.v] w fun r w' => r = .returned (.bool (formedP e)) ∧ Only Nil w w' := by
  obtain ⟨kind, time, ip, till, why, len, a, cap, data⟩ := e
  unfold Ev.v
  go_enter Try.func44, Try.ntmps44
  go_upto_region 1 with fail
  obtain ⟨b1, hb1⟩ : ∃ b, w.heap.size = b := ⟨_, rfl⟩
  refine wp_gen (fun W => Only Nil w W ∧ Blk W b1 48 [.int .i64 kind, .int .i64 time, .int .u32 ip, .int .i64 till, .int .i64 why, .int .i64 len, .slice a data.length cap])
    ⟨(Only.refl _ _).alloc _, hb1 ▸ Blk.new w _ _⟩ ?_
  rw [hb1]
  intro w1 ⟨ho, he⟩
  have HO := Lib.hid ho
  clear ho hb1
  have e0 : w1.cell? ⟨b1, 0, none⟩ = some (.int .i64 kind) := he.cell 0
  have e1 : w1.cell? ⟨b1, 1, none⟩ = some (.int .i64 time) := he.cell 1
  have e2 : w1.cell? ⟨b1, 2, none⟩ = some (.int .u32 ip) := he.cell 2
  have e3 : w1.cell? ⟨b1, 3, none⟩ = some (.int .i64 till) := he.cell 3
  have e4 : w1.cell? ⟨b1, 4, none⟩ = some (.int .i64 why) := he.cell 4
  have e5 : w1.cell? ⟨b1, 5, none⟩ = some (.int .i64 len) := he.cell 5
  have e6 : w1.cell? ⟨b1, 6, none⟩ = some (.slice a data.length cap) := he.cell 6
  clear he
  have hk : kind = 1 ∨ kind = 2 ∨ kind = 3 ∨ kind = 4 ∨ kind = 5 ∨ kind = 6 ∨ kind = 7 ∨ kind < 1 ∨ (¬ kind < 1 ∧ 7 < kind) := by omega
  rcases hk with rfl | rfl | rfl | rfl | rfl | rfl | rfl | hk | ⟨hk, hk2⟩
  all_goals go_wp2
  all_goals go_ret
  all_goals exact ⟨by refine congrArg (fun b => Ending.returned (Value.bool b)) ?_; rw [Bool.eq_iff_iff]; simp [formedP, -List.length_eq_zero_iff] <;> (try simp [-List.length_eq_zero_iff] at *) <;> (try omega), HO.out⟩
end Go.Proofs.Ythoaeolohnalnaa
