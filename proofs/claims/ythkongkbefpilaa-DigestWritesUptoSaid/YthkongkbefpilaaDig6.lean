/-
  Slices of slices of bytes; the walk of digest.Sum.
-/
import Derived.Test.YthkongkbefpilaaDig5
namespace Go.Proofs.Ythkongkbefpilaa
open Go.RowKit Sha

theorem RB.block {w : World} {v : Value} {bs : List UInt8} (h : RB w v bs) (h0 : 0 < bs.length) : ∃ g, blkOf v = some g ∧ g < w.heap.size := by
  obtain ⟨A, c, rfl, _, h⟩ := h
  obtain ⟨g, o, rfl, hr⟩ := h h0
  exact ⟨g, rfl, World.block_lt_of_cell? w _ (hr 0 h0)⟩
theorem RB.ne {w : World} {v : Value} {bs : List UInt8} (h : RB w v bs) (h0 : 0 < bs.length) {g : Nat} (hg : w.heap.size ≤ g) : blkOf v ≠ some g := by
  obtain ⟨g', e, hlt⟩ := h.block h0
  rw [e]
  simp
  omega
/-- Write, of no bytes too. -/
theorem write_ok (g : Nat) (m bs : List UInt8) (v : Value) (w : World) (hH : HashAt w g m) (hv : RB w v bs) (hd : 0 < bs.length → blkOf v ≠ some g) (hlen : m.length + bs.length ≤ 1000000000000000000) :
    Calls Try.prog 17 #[.pointer (some ⟨g, 0, none⟩), v] w fun e w' => e = .returned (.tuple #[]) ∧ HashAt w' g (m ++ bs) ∧ Only (One g) w w' := by
  by_cases h0 : 0 < bs.length
  · exact write_any g m bs v w hH hv (hd h0) hlen
  · obtain rfl : bs = [] := List.eq_nil_of_length_eq_zero (by omega)
    obtain ⟨A, c, rfl, hc⟩ := hv.form
    have HH := Lib.hid hH
    clear hv hd hH hlen h0 hc
    go_enter Try.func17, Try.ntmps17
    go_wp2
    go_loopw [1] (fun v wr => v = .slice A 0 c ∧ wr = w) (fun _ _ => 0)
    case atStart => exact ⟨rfl, rfl⟩
    case round =>
      obtain ⟨rfl, rfl⟩ := hrel
      go_wp2
      go_end0
      exact ⟨rfl, by rw [List.append_nil]; exact HH.out, Only.refl _ _⟩

/-- 'v' is a slice that reads as the values vs. -/
def RV (w : World) (v : Value) (vs : List Value) : Prop :=
  ∃ (A : Option Addr) (c : Nat), v = .slice A vs.length c ∧ vs.length ≤ c ∧ (0 < vs.length → ∃ g o, A = some ⟨g, o, none⟩ ∧ ∀ j, j < vs.length → w.cell? ⟨g, o + j, none⟩ = some (vs.getD j undef))
/-- A slice of slices of bytes. -/
structure Parts (w : World) (v : Value) (vs : List Value) (ps : List (List UInt8)) : Prop where
  row : RV w v vs
  len : vs.length = ps.length
  each : ∀ j, j < ps.length → RB w (vs.getD j undef) (ps.getD j [])
theorem RV.only {w w' : World} {v : Value} {vs : List Value} {S : Nat → Prop} (h : RV w v vs) (ho : Only S w w') (hS : ∀ g, g < w.heap.size → blkOf v = some g → ¬ S g) : RV w' v vs := by
  obtain ⟨A, c, rfl, hc, h⟩ := h
  refine ⟨A, c, rfl, hc, fun h0 => ?_⟩
  obtain ⟨g, o, rfl, hr⟩ := h h0
  exact ⟨g, o, rfl, fun j hj => ho.cell (hr j hj) (hS g (World.block_lt_of_cell? w _ (hr j hj)) rfl)⟩
/-- What stays readable while nothing old is written. -/
theorem Parts.only {w w' : World} {v : Value} {vs : List Value} {ps : List (List UInt8)} (h : Parts w v vs ps) (ho : Only Nil w w') : Parts w' v vs ps :=
  ⟨h.row.only ho fun _ _ _ => id, h.len, fun j hj => (h.each j hj).only ho fun _ _ => id⟩
theorem flat_succ (ps : List (List UInt8)) (k : Nat) (h : k < ps.length) : (ps.take (k + 1)).flatten = (ps.take k).flatten ++ ps.getD k [] := by
  rw [List.take_add_one, List.flatten_append]
  simp [List.getD, h]
theorem flat_le (ps : List (List UInt8)) (k : Nat) : (ps.take k).flatten.length ≤ ps.flatten.length := by
  have := congrArg (fun l : List (List UInt8) => l.flatten.length) (List.take_append_drop k ps)
  simp only [List.flatten_append, List.length_append] at this
  omega
/-- While the parts are written. -/
def PartsAt (w : World) (k : Nat) (ps : List (List UInt8)) (wr : World) : Prop :=
  HashAt wr (w.heap.size + 1) (ps.take k).flatten ∧ Only Nil w wr ∧ Blk wr w.heap.size 26 (BC (List.replicate 32 0))
theorem PartsAt.start (w : World) (ps : List (List UInt8)) : PartsAt w 0 ps ((w.alloc (.cells (BC (List.replicate 32 0)).toArray 26)).alloc (.cells (HC Sha.start (List.replicate 64 0) 0).toArray 56)) := by
  refine ⟨?_, ((Only.refl _ _).alloc _).alloc _, (Blk.new w _ _).alloc _⟩
  have := HashAt.new (w.alloc (.cells (BC (List.replicate 32 0)).toArray 26))
  rw [World.size_alloc] at this
  exact this

set_option maxHeartbeats 1600000 in
set_option maxRecDepth 100000 in
theorem sum_any (v : Value) (vs : List Value) (ps : List (List UInt8)) (w : World) (hP : Parts w v vs ps) (hlen : ps.flatten.length ≤ 900000000000000000) (hvl : vs.length ≤ 1000000000000000000) :
    Calls Try.prog 11 #[v] w fun e w' => e = .returned (.agg (BC (sha ps.flatten)).toArray) ∧ Only Nil w w' := by
  obtain ⟨A, c, rfl, hc, hrow⟩ := hP.row
  have hn := hP.len
  have HP := Lib.hid hP
  have HN := Lib.hid hn
  have HR := Lib.hid hrow
  clear hP hn hrow
  go_enter Try.func11, Try.ntmps11
  go_upto_region 2 with (go_at_call 15; refine (new_any _).mono ?_; rintro e w' ⟨rfl, rfl⟩)
  refine wp_gen (PartsAt w 0 ps) (PartsAt.start w ps) ?_
  intro w1 h1
  go_wp2
  go_loopw [5, 9] (fun _ i wr => ∃ k : Nat, k ≤ vs.length ∧ i = .int .i64 k ∧ PartsAt w k ps wr) (fun _ i _ => vs.length - (intOf i).toNat)
  case atStart => exact ⟨0, Nat.zero_le _, rfl, h1⟩
  case round =>
    clear h1
    obtain ⟨k, hk, rfl, hS⟩ := hrel
    by_cases hlt : k < vs.length
    · obtain ⟨ga, oa, rfl, hcell⟩ := HR.out (by omega)
      have ck := hS.2.1.cell (hcell k hlt) id
      have hlt2 : k < ps.length := by rw [← HN.out]; exact hlt
      have hb := HP.out.each k hlt2
      have hB := Lib.hid (hb.only hS.2.1 fun _ _ => id)
      have hD := Lib.hid (fun h0 => hb.ne (g := w.heap.size + 1) h0 (by omega))
      have hL := Lib.hid (show (ps.take k).flatten.length + (ps.getD k []).length ≤ 1000000000000000000 by
        have := flat_le ps (k + 1)
        rw [flat_succ ps k hlt2, List.length_append] at this
        omega)
      have HF := Lib.hid (flat_succ ps k hlt2)
      generalize vs.getD k undef = x at *
      have HS := Lib.hid hS
      clear hb hS hcell
      go_wp2_with (go_at_call 17; refine (write_ok (w.heap.size + 1) (ps.take k).flatten (ps.getD k []) x _ HS.out.1 hB.out hD.out hL.out).mono ?_; rintro e w3 ⟨rfl, hh3, ho3⟩)
      have H3 := Lib.hid hh3
      have O3 := Lib.hid ho3
      clear hh3 ho3
      go_wp2
      go_roundw
      case rel =>
        refine ⟨k + 1, by omega, by go_num, ?_, HS.out.2.1.trans O3.out (fun i hi => .inr (by rw [hi]; omega)), O3.out.blk HS.out.2.2 (fun h => by have : w.heap.size = w.heap.size + 1 := h; omega)⟩
        rw [HF.out]
        exact H3.out
      case measure => simp [intOf]; omega
    · have HK := Lib.hid (show k = vs.length by omega)
      have ht : ps.take k = ps := List.take_of_length_le (by rw [HK.out, HN.out]; omega)
      rw [PartsAt, ht] at hS
      have hn : (BC (sha ps.flatten)).toArray.size = 32 := by simp [BC_length, sha_length]
      obtain ⟨h1, h2, h3⟩ := hS
      have H1 := Lib.hid h1
      have H2 := Lib.hid h2
      have H3 := Lib.hid h3
      clear h1 h2 h3 ht
      go_wp2_with (first
        | (go_at_call 19; refine (hsum_any (w.heap.size + 1) ps.flatten _ H1.out hlen).mono ?_; rintro e w4 ⟨rfl, ho4⟩)
        | ((with_reducible show wpList _ _ _ (Oper.mk _ (.store 26 _ _) _ _ _ _ :: _) _ _); refine wpList_store_row rfl 26 (.tmp 2) (.tmp 18) rfl w.heap.size (BC (sha ps.flatten)).toArray rfl rfl _ _ (ho4.blk H3.out id) (by rw [hn]; kernel_rfl) (by rw [hn]; simp [BC_length]) (all_oneCell_toArray (BC_one _)) ?_))
      refine bodyPost_ret (results_cell_row rfl _ _ w.heap.size 26 (BC (sha ps.flatten)).toArray (0, 0) _ rfl (setRow_heap _ _ _ _ _ _ (ho4.blk H3.out id)) Try.underlying26 rfl (by rw [hn]; kernel_rfl)) rfl ⟨rfl, (H2.out.then ho4).setRow (.inr (by omega)) _⟩
end Go.Proofs.Ythkongkbefpilaa
