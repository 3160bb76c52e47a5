/-
  Bytes as their owner hands them in (Lent), and whether they still read so (AsLent).
-/
import Derived.Test.YtkkjnembjlgiaaaKit
namespace Go.Proofs.Ytkkjnembjlgiaaa
open Go.RowKit

theorem slice_lent {g n cap : Nat} (hk : n ≤ cap) (m : Nat) (W : World) : (Instr.slice 39 (.slice (some ⟨g, 0, none⟩) m cap) none (some (.int .i64 (n : Int))) none).run Try.prog W = .ok (.slice (some ⟨g, 0, none⟩) n cap) W := by
  have h := slice_bytes_h (A := some ⟨g, 0, none⟩) (n := m) (c := cap) (k := n) hk W
  have e : sliced (some ⟨g, 0, none⟩) 0 n cap 1 = .slice (some ⟨g, 0, none⟩) n cap := by
    unfold sliced
    simp [Addr.add]
  rwa [e] at h
theorem slice_lent2 {g n cap : Nat} (hk : n + 2 ≤ cap) (m : Nat) (W : World) : (Instr.slice 39 (.slice (some ⟨g, 0, none⟩) m cap) none (some (.int .i64 ((n : Int) + 2))) none).run Try.prog W = .ok (.slice (some ⟨g, 0, none⟩) (n + 2) cap) W := slice_lent (n := n + 2) hk m W
theorem made_zeros (n : Nat) : madeCells #[.int .u8 0] n = (BC (List.replicate n 0)).toArray := by
  apply Array.ext'
  rw [toList_madeCells_one]
  unfold BC
  rw [List.map_replicate]
  rfl
set_option maxHeartbeats 1600000 in
theorem lentb_any (v : Value) (bs : List UInt8) (w : World) (hb : RB w v bs) (hl : bs.length ≤ 140737488355328) :
    Calls Try.prog 19 #[v] w fun r w' => r = .returned (.slice (some ⟨w.heap.size, 0, none⟩) bs.length (bs.length + 2)) ∧ Blk w' w.heap.size 5 (BC (bs ++ [71, 72])) ∧ Only Nil w w' := by
  obtain ⟨ib, hib, hbz, hbs, hbb⟩ := info_parts info_byte
  have hmk : ∀ u : World, (Instr.makeSlice 39 (.int .i64 ((bs.length : Int) + 2)) (.int .i64 ((bs.length : Int) + 2))).run Try.prog u =
      .ok (.slice (some ⟨u.heap.size, 0, none⟩) (bs.length + 2) (bs.length + 2)) (u.alloc (.cells (BC (List.replicate (bs.length + 2) 0)).toArray 5)) := fun u => by
    have h := run_make (P := Try.prog) u 39 5 ib (.int .u8 0) Try.underlying39 hib hbz .i64 .i64 ((bs.length : Int) + 2) ((bs.length : Int) + 2) (by omega) (Int.le_refl _) (by rw [hbb]; omega) (by omega)
    have e : ((bs.length : Int) + 2).toNat = bs.length + 2 := by omega
    rw [e, hbs, Nat.mul_one] at h
    rw [← made_zeros]
    exact h
  obtain ⟨A, c, rfl, hc, hr⟩ := hb
  have HR := Lib.hid hr
  clear hr
  have hsl := fun W => slice_lent (g := w.heap.size) (n := bs.length) (cap := bs.length + 2) (by omega) (bs.length + 2) W
  go_enter Try.func19, Try.ntmps19
  go_upto_region 3 with fail
  obtain ⟨g, hg⟩ : ∃ b, w.heap.size = b := ⟨_, rfl⟩
  rw [hg] at hsl
  have HO := Lib.hid (show Only Nil w (w.alloc (.cells (BC (List.replicate (bs.length + 2) 0)).toArray 5)) from (Only.refl _ _).alloc _)
  have HB := Lib.hid (show Blk (w.alloc (.cells (BC (List.replicate (bs.length + 2) 0)).toArray 5)) g 5 (BC (List.replicate (bs.length + 2) 0)) from hg ▸ Blk.new w _ _)
  have HG := Lib.hid hg
  (try rw [hg])
  clear hmk
  go_cut [4] (fun t wx => t = .slice (some ⟨g, 0, none⟩) (bs.length + 2) (bs.length + 2) ∧ Only Nil w wx ∧ Blk wx g 5 (BC (bs ++ [0, 0])))
  case first =>
    by_cases h0 : 0 < bs.length
    · obtain ⟨ga, oa, rfl, hcell⟩ := HR.out h0
      have hsrc : ∀ j u, (BC bs)[j]? = some u → (w.alloc (.cells (BC (List.replicate (bs.length + 2) 0)).toArray 5)).cell? ((⟨ga, oa, none⟩ : Addr).add j) = some u := by
        intro j u hu
        have hj : j < bs.length := by have := (List.getElem?_eq_some_iff.1 hu).1; rwa [BC_length] at this
        rw [BC_get _ _ hj] at hu
        rw [Addr.add_mid]
        exact HO.out.cell ((hcell j hj).trans hu) id
      have HSRC := Lib.hid hsrc
      clear hsrc hcell hg
      go_wp2_with ((with_reducible show wpList _ _ _ (Oper.mk _ (.call { callee := .builtin .copy, args := _, argTypes := _ }) _ _ _ _ :: _) _ _); refine wpList_copy_own rfl (.tmp 10) (.tmp 11) 39 39 rfl 5 Try.underlying39 (by kernel_rfl) g 0 (bs.length + 2) (bs.length + 2) ⟨ga, oa, none⟩ bs.length c rfl rfl (BC (List.replicate (bs.length + 2) 0)).toArray 5 HB.out (BC bs) (by rw [BC_length]; exact (Nat.min_eq_left (by omega)).symm) HSRC.out (by simp [BC_length]) (BC_one bs) ?_)
      (first | simp only [Act.put] | skip)
      go_meet
      refine ⟨rfl, HO.out.setRow (.inr (by rw [← HG.out]; exact Nat.le_refl _)) _, ?_⟩
      have h := HB.out.row (List.take 0 (BC (List.replicate (bs.length + 2) 0)) ++ (BC bs ++ List.drop (0 + (BC bs).length) (BC (List.replicate (bs.length + 2) 0))))
      have e : List.take 0 (BC (List.replicate (bs.length + 2) 0)) ++ (BC bs ++ List.drop (0 + (BC bs).length) (BC (List.replicate (bs.length + 2) 0))) = BC (bs ++ [0, 0]) := by
        rw [BC_length, BC_append]
        simp [BC, List.map_replicate, List.drop_replicate]
      rw [e] at h ⊢
      exact h
    · obtain rfl : bs = [] := List.eq_nil_of_length_eq_zero (by omega)
      clear hg
      go_wp2_with ((with_reducible show wpList _ _ _ (Oper.mk _ (.call { callee := .builtin .copy, args := _, argTypes := _ }) _ _ _ _ :: _) _ _); refine wpList_copy_nothing rfl (.tmp 10) (.tmp 11) 39 39 rfl 5 Try.underlying39 (by kernel_rfl) (some ⟨g, 0, none⟩) A 2 2 0 c rfl rfl rfl ?_)
      (first | simp only [Act.put] | skip)
      go_meet
      exact ⟨rfl, HO.out, HB.out⟩
  case rest =>
    obtain ⟨rfl, hO, hB⟩ := hcut
    have z0 : wc.cell? ⟨g, bs.length, none⟩ = some (.int .u8 0) := by
      rw [hB.cell, BC_append, List.getElem?_append_right (by rw [BC_length]; exact Nat.le_refl _), BC_length, Nat.sub_self]
      rfl
    have z1 : wc.cell? ⟨g, bs.length + 1, none⟩ = some (.int .u8 0) := by
      rw [hB.cell, BC_append, List.getElem?_append_right (by rw [BC_length]; omega), BC_length, show bs.length + 1 - bs.length = 1 by omega]
      rfl
    have f0 := hB.free bs.length
    have f1 := hB.free (bs.length + 1)
    have HE := Lib.hid (show Only Nil w ((wc.setCell ⟨g, bs.length, none⟩ (.int .u8 71)).setCell ⟨g, bs.length + 1, none⟩ (.int .u8 72)) ∧ Blk ((wc.setCell ⟨g, bs.length, none⟩ (.int .u8 71)).setCell ⟨g, bs.length + 1, none⟩ (.int .u8 72)) g 5 (BC (bs ++ [71, 72])) from by
      refine ⟨(hO.setCell (p := ⟨g, bs.length, none⟩) (.inr (Nat.le_of_eq hg)) _).setCell (p := ⟨g, bs.length + 1, none⟩) (.inr (Nat.le_of_eq hg)) _, ?_⟩
      have h := (hB.set bs.length (.int .u8 (by8 71))).set (bs.length + 1) (.int .u8 (by8 72))
      rw [BC_set, BC_set] at h
      have e : ((bs ++ [0, 0]).set bs.length 71).set (bs.length + 1) 72 = bs ++ [71, 72] := by simp
      rw [e] at h
      exact h)
    clear HO HB hO hB HR
    go_wp2
    go_ret
    exact ⟨by rw [hg]; rfl, by rw [hg]; exact HE.out.2, HE.out.1⟩
/-- A block of bytes while it is written over. -/
def Over (g n : Nat) (w wr : World) : Prop := Only (One g) w wr ∧ ∃ cur : Array Value, wr.heap[g]? = some (.cells cur 5 (0, 0)) ∧ n ≤ cur.size
theorem Over.put {g n k : Nat} {w wr : World} (h : Over g n w wr) (u : Value) : Over g n w (wr.setCell ⟨g, k, none⟩ u) := by
  obtain ⟨ho, cur, hh, hn⟩ := h
  refine ⟨ho.setCell (p := ⟨g, k, none⟩) (.inl (One.self g)) u, cur.setIfInBounds k u, ?_, by simpa using hn⟩
  simp [World.setCell, Array.getElem?_modify, hh]
theorem Over.cell {g n k : Nat} {w wr : World} (h : Over g n w wr) (hk : k < n) : (∃ u, wr.cell? ⟨g, k, none⟩ = some u) ∧ wr.frozen? ⟨g, k, none⟩ = false := by
  obtain ⟨ho, cur, hh, hn⟩ := h
  refine ⟨⟨cur[k]'(by omega), ?_⟩, by simp [World.frozen?, hh]⟩
  have := cell_of_row wr g k cur 5 (0, 0) hh
  rw [this]
  exact Array.getElem?_eq_getElem _
theorem RB.off {S : Nat → Prop} {w w' : World} {v : Value} {bs : List UInt8} (h : RB w v bs) (ho : Only S w w') (hS : 0 < bs.length → ∀ g, blkOf v = some g → ¬ S g) : RB w' v bs := by
  obtain ⟨A, c, rfl, hc, h⟩ := h
  refine ⟨A, c, rfl, hc, fun h0 => ?_⟩
  obtain ⟨g, o, rfl, hr⟩ := h h0
  exact ⟨g, o, rfl, fun j hj => ho.cell (hr j hj) (hS h0 g rfl)⟩
set_option maxHeartbeats 3200000 in
set_option maxRecDepth 100000 in
theorem aslent_any (g : Nat) (v : Value) (bs : List UInt8) (w : World) (hB : Blk w g 5 (BC (bs ++ [71, 72]))) (hb : RB w v bs) (hl : bs.length ≤ 140737488355328) :
    Calls Try.prog 21 #[.slice (some ⟨g, 0, none⟩) bs.length (bs.length + 2), v] w fun r w' => r = .returned (.bool true) ∧ Only (One g) w w' := by
  have hsl2 := fun W => slice_lent2 (g := g) (n := bs.length) (cap := bs.length + 2) (Nat.le_refl _) bs.length W
  have hsl := fun W => slice_lent (g := g) (n := bs.length) (cap := bs.length + 2) (by omega) (bs.length + 2) W
  have z0 : w.cell? ⟨g, bs.length, none⟩ = some (.int .u8 71) := by
    rw [hB.cell, BC_append, List.getElem?_append_right (by rw [BC_length]; exact Nat.le_refl _), BC_length, Nat.sub_self]
    rfl
  have z1 : w.cell? ⟨g, bs.length + 1, none⟩ = some (.int .u8 72) := by
    rw [hB.cell, BC_append, List.getElem?_append_right (by rw [BC_length]; omega), BC_length, show bs.length + 1 - bs.length = 1 by omega]
    rfl
  have hr1 : RB w (.slice (some ⟨g, 0, none⟩) bs.length (bs.length + 2)) bs := ⟨_, _, rfl, by omega, fun _ => ⟨g, 0, rfl, fun j hj => by
    rw [Nat.zero_add, hB.cell, BC_append, List.getElem?_append_left (by rw [BC_length]; exact hj)]
    exact BC_get _ _ hj⟩⟩
  obtain ⟨A, c, rfl, hc⟩ := hb.form
  have st1 := fun n => str_of (P := Try.prog) (src := 39) (e := 5) (dst := 9) Try.underlying39 Try.underlying5 Try.underlying9 (hr1.drewN n)
  have st2 := fun n => str_of (P := Try.prog) (src := 39) (e := 5) (dst := 9) Try.underlying39 Try.underlying5 Try.underlying9 (hb.drewN n)
  have HV := Lib.hid (show Over g (bs.length + 2) w w from ⟨Only.refl _ _, (BC (bs ++ [71, 72])).toArray, hB, by simp [BC_length]⟩)
  clear hr1 hb hB hc
  go_enter Try.func21, Try.ntmps21
  go_upto_region 5 with fail
  go_quiet (fail)
  go_upto_region 6 with fail
  refine wp_gen (Over g (bs.length + 2) w) ⟨HV.out.1.drewN nq, HV.out.2⟩ ?_
  clear st1 st2 z0 z1 hsl hsl2
  intro w2 h2
  have HC := Lib.hid h2
  clear HV h2
  go_wp2
  go_loopw [8] (fun j wr => ∃ m : Nat, m ≤ bs.length + 2 ∧ j = .int .i64 m ∧ Over g (bs.length + 2) w wr) (fun j _ => bs.length + 2 - (intOf j).toNat)
  case atStart => exact ⟨0, Nat.zero_le _, rfl, HC.out⟩
  case round =>
    obtain ⟨m, hm, rfl, hOv⟩ := hrel
    have hm2 : (m : Int) ≤ (bs.length : Int) + 2 := by omega
    by_cases hlt3 : m < bs.length + 2
    · obtain ⟨⟨u, c1⟩, c2⟩ := hOv.cell hlt3
      have HO3 := Lib.hid (hOv.put (k := m) (.int .u8 83))
      have hlt4 : (m : Int) < (bs.length : Int) + 2 := by omega
      clear hOv
      go_wp2
      go_roundw
      case rel => exact ⟨m + 1, by omega, by go_num, HO3.out⟩
      case measure => simp [intOf]; omega
    · have HO3 := Lib.hid hOv.1
      have hlt4 : ¬ (m : Int) < (bs.length : Int) + 2 := by omega
      clear hOv
      go_wp2
      go_ret
      exact ⟨rfl, HO3.out⟩
end Go.Proofs.Ytkkjnembjlgiaaa
