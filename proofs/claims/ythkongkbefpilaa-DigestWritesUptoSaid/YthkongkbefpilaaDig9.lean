/-
  The walk of the reference's Hex.
-/
import Derived.Test.YthkongkbefpilaaDig8
import Derived.Deep.AppendLies
import Derived.Deep.RegionHeld3
namespace Go.Proofs.Ythkongkbefpilaa
open Go.RowKit Sha

/-! ## A row of the call's own that grows -/
theorem OB.block {w : World} {base : Nat} {v : Value} {bs : List UInt8} (h : OB w base v bs) : ∀ k, v.ownBlock = some k → base ≤ k ∧ k < w.heap.size := by
  intro k hk
  rcases h.2 with ⟨rfl, _⟩ | ⟨g, cap, cur, rfl, hg, hh, _⟩
  · cases hk
  · obtain rfl : g = k := Option.some.inj hk
    exact ⟨hg, (Array.getElem?_eq_some_iff.1 hh).1⟩
theorem OB.blk {w : World} {base : Nat} {v : Value} {bs : List UInt8} (h : OB w base v bs) : blkOf v = v.ownBlock := by
  rcases h.2 with ⟨rfl, _⟩ | ⟨g, cap, cur, rfl, _⟩ <;> rfl
theorem OB.alloc {w : World} {base : Nat} {v : Value} {bs : List UInt8} (h : OB w base v bs) (o : Obj) : OB (w.alloc o) base v bs := World.ownsRow.alloc h o
theorem OB.drew {w : World} {base : Nat} {v : Value} {bs : List UInt8} (h : OB w base v bs) : OB w.drew base v bs := h
/-- Behind an append, from a world that is 'wr' and more. -/
theorem OB.grew {w wr w1 w2 : World} {base : Nat} {v v2 : Value} {bs c : List UInt8} {n : Nat} (h : OB wr base v bs) (ho : Only Nil w wr) (h1 : Only Nil wr w1) (hb : w.heap.size ≤ base) (hn : (bs ++ c).length = n)
    (h2 : w2.ownsRow base 5 1 v2 n (BC bs ++ BC c)) (hg : w1.grownBy w2 v.ownBlock) : OB w2 base v2 (bs ++ c) ∧ Only Nil w w2 ∧ (∀ k t cs, k < base → Blk wr k t cs → Blk w2 k t cs) := by
  subst hn
  have hS : ∀ k, v.ownBlock = some k → base ≤ k := fun k hk => (h.block k hk).1
  refine ⟨?_, (ho.then h1).trans (Only.of_grown (S := fun k => base ≤ k) hg fun k hk => .inl (hS k hk)) fun i hi => .inr (Nat.le_trans hb hi), fun k t cs hk hB => ?_⟩
  · unfold OB
    rw [BC_append]
    exact h2
  · exact (Only.of_grown (S := fun k => base ≤ k) hg fun k hk => .inl (hS k hk)).blk (h1.blk hB id) (by omega)

/-! ## The reference's Hex -/
def RHex (w : World) (d : List UInt8) (k : Nat) (v : Value) (wr : World) : Prop :=
  OB wr (w.heap.size + 1) v (hex (d.take k)) ∧ Only Nil w wr ∧ Blk wr w.heap.size 26 (BC d)
set_option maxHeartbeats 1600000 in
set_option maxRecDepth 100000 in
theorem rhex_any (d : List UInt8) (w : World) (hd : d.length = 32) :
    Calls Try.prog 25 #[.agg (BC d).toArray] w fun e w' => e = .returned (.string (str (hex d))) ∧ Only Nil w w' := by
  obtain ⟨ib, hib, hbz, hbs, hbb⟩ := info_parts info_byte
  go_enter Try.func25, Try.ntmps25
  go_wp2
  refine wp_gen (RHex w d 0 (.slice none 0 0)) ⟨OB.nil _ _, (Only.refl _ _).alloc _, Blk.new w _ _⟩ ?_
  intro w1 h1
  go_loopw [3, 4] (fun v i wr => ∃ k : Nat, k ≤ 32 ∧ i = .int .i64 k ∧ RHex w d k v wr) (fun _ i _ => 32 - (intOf i).toNat)
  case atStart => exact ⟨0, Nat.zero_le _, rfl, h1⟩
  case round =>
    rename_i v i _
    clear h1
    obtain ⟨k, hk, rfl, hS⟩ := hrel
    by_cases hlt : k < 32
    · have hsucc := hex_succ d k (by omega)
      have c0 := hS.2.2.cell k
      rw [BC_get _ _ (by omega)] at c0
      generalize d.getD k 0 = x at *
      have e1 := by8_hi x
      have e2 := by8_lo x
      have hl2 : (hex (d.take k)).length = 2 * k := by rw [hex_length, List.length_take]; omega
      have hown := hS.1
      unfold OB at hown
      rw [hl2] at hown
      have HS := Lib.hid hS
      have HU := Lib.hid hsucc
      have HL := Lib.hid hl2
      have hh := hi8_lt x
      have hl := lo8_lt x
      clear hS hsucc hl2
      generalize hi8 x = y at *
      generalize lo8 x = z at *
      have HH := Lib.hid hh
      have HZ := Lib.hid hl
      clear hh hl
      go_wp2
      go_region_held3 (fun W => W.cell? ⟨w.heap.size, k, none⟩ = some (.int .u8 (by8 x)))
        (first
          | go_keep
          | (rw [hgrow.cell_far _ (by simp; have := HS.out.2.2.lt; omega) (fun h => Nat.not_succ_le_self _ (HS.out.1.block _ h.symm).1)]; assumption))
        ((first
          | (go_at_call 31; (with_reducible show Calls _ _ #[Value.int IntKind.u8 (by8 y)] _ _); refine (digit_any y _ HH.out).mono ?_; rintro e w' ⟨rfl, rfl⟩)
          | (go_at_call 31; (with_reducible show Calls _ _ #[Value.int IntKind.u8 (by8 z)] _ _); refine (digit_any z _ HZ.out).mono ?_; rintro e w' ⟨rfl, rfl⟩)
          | (refine step_append_lies _ (by rfl) _ _ _ (by rfl) (w.heap.size + 1) 5 ib _ 1 1 Try.underlying37 hib hbz hbs hbb rfl (by omega) _ (2 * k) (BC (hex (d.take k))) (by rfl) ((hown.alloc _).drew)
              ⟨wr.heap.size, 0, none⟩ 2 2 (BC [hexd y, hexd z]) (by rfl) (by rfl) (news_block (Blk.new wr 5 (BC [hexd y, hexd z])).drew) (BC_one _)
              (by omega) (by unfold maxLen; omega) (by omega) (by have := HS.out.2.2.lt; simp; omega) (wr.heap.size + 1) (by simp) ?_; intro gg cap w2 hown2 hgrow hat hlt2)))
      have H2 := Lib.hid (OB.grew (w := w) (c := [hexd y, hexd z]) HS.out.1 HS.out.2.1 ((((Only.refl _ _).alloc _).drew)) (by omega) (n := 2 * k + 2) (by simp [HL.out]) hown2 hgrow)
      have H3 := Lib.hid (H2.out.2.2 w.heap.size _ _ (by omega) HS.out.2.2)
      clear hown2 hgrow hown
      go_wp2
      go_roundw
      case rel => exact ⟨k + 1, by omega, by go_num, by rw [HU.out]; exact H2.out.1, H2.out.2.1, H3.out⟩
      case measure => simp [intOf]; omega
    · have ht : d.take k = d := List.take_of_length_le (by omega)
      unfold RHex at hS
      rw [ht] at hS
      have hconv := str_of (P := Try.prog) (src := 37) (e := 5) (dst := 9) Try.underlying37 Try.underlying5 Try.underlying9 hS.1.reads
      have HO := Lib.hid hS.2.1
      clear hS ht
      go_wp2
      go_ret
      exact ⟨rfl, HO.out⟩
end Go.Proofs.Ythkongkbefpilaa
