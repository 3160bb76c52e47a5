/-
  The reference's hold (slipwayref19): its form in memory; Len, Most, Reset, Record.
-/
import Derived.Test.YthkongkbefpilaaDoorHBk
namespace Go.Proofs.YthkongkbefpilaaDoor
set_option maxRecDepth 100000
open Go.RowKit Sha

def HS.rcells (s : HS) (v : Value) : List Value := v :: .int .i64 s.most :: (BC s.want ++ [.bool s.shut])
structure RefAt (B : Nat) (w : World) (F : Nat → Prop) (x : Nat) (v : Value) (s : HS) : Prop where
  blk : Blk w x 59 (s.rcells v)
  row : w.ownsRow B 5 1 v s.img.length (BC s.img)
  foot : F x ∧ ∀ k, v.ownBlock = some k → F k
  ok : s.Ok
structure IsRef (B : Nat) (w : World) (F : Nat → Prop) (x : Nat) (s : HS) : Prop where
  at' : ∃ v, RefAt B w F x v s
  own : ∀ k, F k → B ≤ k ∧ k < w.heap.size
  base : B ≤ w.heap.size
structure DidR (B : Nat) (w : World) (F : Nat → Prop) (x : Nat) (s' : HS) (w' : World) : Prop where
  ref : IsRef B w' (Wide F w w') x s'
  only : Only F w w'
section
variable {B : Nat} {w w' w1 : World} {F S : Nat → Prop} {x : Nat} {v : Value} {s s' : HS}
theorem RefAt.only (h : RefAt B w F x v s) (ho : Only S w w') (hS : ∀ k, F k → ¬ S k) : RefAt B w' F x v s :=
  ⟨ho.blk h.blk (hS x h.foot.1), own_only h.row ho fun k hk => hS k (h.foot.2 k hk), h.foot, h.ok⟩
theorem IsRef.only (h : IsRef B w F x s) (ho : Only S w w') (hS : ∀ k, F k → ¬ S k) : IsRef B w' F x s := by
  obtain ⟨v, hA⟩ := h.at'
  exact ⟨⟨v, hA.only ho hS⟩, fun k hk => ⟨(h.own k hk).1, Nat.lt_of_lt_of_le (h.own k hk).2 ho.size⟩, Nat.le_trans h.base ho.size⟩
theorem IsRef.did (h : IsRef B w F x s) (hA : RefAt B w' (Wide F w w') x v s') (ho : Only F w w') : DidR B w F x s' w' :=
  ⟨⟨⟨v, hA⟩, fun k hk => by
    rcases hk with hk | hk
    · exact ⟨(h.own k hk).1, Nat.lt_of_lt_of_le (h.own k hk).2 ho.size⟩
    · exact ⟨Nat.le_trans h.base hk.1, hk.2⟩, Nat.le_trans h.base ho.size⟩, ho⟩
theorem RefAt.wide (h : RefAt B w F x v s) : RefAt B w (Wide F w1 w') x v s := ⟨h.blk, h.row, ⟨.inl h.foot.1, fun k hk => .inl (h.foot.2 k hk)⟩, h.ok⟩
theorem DidR.nil (h : IsRef B w F x s) (ho : Only Nil w w') : DidR B w F x s w' := by
  obtain ⟨v, hA⟩ := h.at'
  exact h.did ((hA.only ho fun _ _ e => e).wide) (ho.mono (T := F) fun _ _ e => e.elim)
theorem RefAt.c0 (h : RefAt B w F x v s) : w.cell? ⟨x, 0, none⟩ = some v := h.blk.cell 0
theorem RefAt.c1 (h : RefAt B w F x v s) : w.cell? ⟨x, 1, none⟩ = some (.int .i64 s.most) := h.blk.cell 1
theorem RefAt.c34 (h : RefAt B w F x v s) : w.cell? ⟨x, 34, none⟩ = some (.bool s.shut) := by
  rw [h.blk.cell 34]
  have : (BC s.want).length = 32 := by rw [BC_length, h.ok.want]
  unfold HS.rcells
  simp [this]
theorem RefAt.wantAt (h : RefAt B w F x v s) : w.rangeAt x 2 (BC s.want) := fun j u hj => by
  rw [show (⟨x, 2 + j, none⟩ : Addr) = ⟨x, 2 + j, none⟩ from rfl, h.blk.cell (2 + j)]
  have hl : j < (BC s.want).length := (List.getElem?_eq_some_iff.1 hj).1
  unfold HS.rcells
  rw [show 2 + j = j + 1 + 1 by omega, List.getElem?_cons_succ, List.getElem?_cons_succ, List.getElem?_append_left hl]
  exact hj
theorem rlen_any (h : IsRef B w F x s) : Calls Tryd.prog 29 #[.pointer (some ⟨x, 0, none⟩)] w fun e w' => e = .returned (.int .i64 (s.img.length : Int)) ∧ w' = w := by
  obtain ⟨v, hA⟩ := h.at'
  have c0 := hA.c0
  obtain ⟨A, c, rfl⟩ := own_slice1 hA.row
  clear hA h
  go_enter Tryd.func29, Tryd.ntmps29
  go_wp2
  go_ret
  exact ⟨rfl, rfl⟩
theorem rmost_any (h : IsRef B w F x s) : Calls Tryd.prog 30 #[.pointer (some ⟨x, 0, none⟩)] w fun e w' => e = .returned (.int .i64 s.most) ∧ w' = w := by
  obtain ⟨v, hA⟩ := h.at'
  have c1 := hA.c1
  clear hA h
  go_enter Tryd.func30, Tryd.ntmps30
  go_wp2
  go_ret
  exact ⟨rfl, rfl⟩
theorem RefAt.put (h : RefAt B w F x v s) (hI : IsRef B w F x s) : DidR B w F x { s with img := [] } (w.setCell ⟨x, 0, none⟩ (.slice none 0 0)) := by
  have ho : Only F w (w.setCell ⟨x, 0, none⟩ (.slice none 0 0)) := (Only.refl _ _).setCell (p := ⟨x, 0, none⟩) (.inl h.foot.1) _
  exact hI.did (v := .slice none 0 0) ⟨h.blk.set 0 _, ⟨rfl, .inl ⟨rfl, rfl⟩⟩, ⟨.inl h.foot.1, fun k hk => by cases hk⟩, ⟨h.ok.want, by have := h.ok.room; simp; omega, h.ok.most⟩⟩ ho
theorem rreset_any (h : IsRef B w F x s) : Calls Tryd.prog 27 #[.pointer (some ⟨x, 0, none⟩)] w fun e w' => e = .returned (.int .i64 (s.open' : Int)) ∧ DidR B w F x s.cleared w' := by
  obtain ⟨v, hA⟩ := h.at'
  have c0 := hA.c0
  have f0 := hA.blk.free 0
  have c34 := hA.c34
  have HD := Lib.hid (hA.put h)
  have HN := Lib.hid (DidR.nil h (Only.refl Nil w))
  clear hA h
  unfold HS.open' HS.cleared
  by_cases hs : s.shut = true
  · rw [hs] at c34
    rw [if_pos hs, if_pos hs]
    clear hs
    go_enter Tryd.func27, Tryd.ntmps27
    go_wp2
    go_ret
    exact ⟨rfl, HN.out⟩
  · have hs' : s.shut = false := by simpa using hs
    rw [hs'] at c34
    rw [if_neg hs, if_neg hs]
    clear hs hs'
    go_enter Tryd.func27, Tryd.ntmps27
    go_wp2
    go_ret
    exact ⟨rfl, HD.out⟩
theorem rrecord_any (h : IsRef B w F x s) : Calls Tryd.prog 33 #[.pointer (some ⟨x, 0, none⟩)] w fun e w' => ∃ u, e = .returned (.tuple #[u, .bool s.shut]) ∧ RB w' u (if s.shut then s.img else []) ∧ Only Nil w w' := by
  obtain ⟨v, hA⟩ := h.at'
  obtain ⟨A, c, rfl⟩ := own_slice1 hA.row
  have c0 := hA.c0
  have c34 := hA.c34
  have hstr : ∀ W, Only Nil w W → (convert 26 9 (.slice A s.img.length c)).run Tryd.prog W = .ok (.string (str s.img)) W := fun W ho => str_of (P := Tryd.prog) (src := 26) (e := 5) (dst := 9) Tryd.underlying26 Tryd.underlying5 Tryd.underlying9 (OwnB.reads' (own_only hA.row ho fun _ _ e => e))
  clear hA h
  by_cases hs : s.shut = true
  · rw [hs] at c34 ⊢
    obtain ⟨c1, w1, hcv, hrb, ho, _⟩ := conv_bytes s.img w
    have h1 := hstr w (Only.refl _ _)
    have HR := Lib.hid hrb
    have HO := Lib.hid ho
    clear hs hstr hrb ho
    go_enter Tryd.func33, Tryd.ntmps33
    go_wp2
    go_ret2
    exact ⟨_, rfl, HR.out, HO.out⟩
  · have hs' : s.shut = false := by simpa using hs
    rw [hs'] at c34 ⊢
    clear hs hs' hstr
    go_enter Tryd.func33, Tryd.ntmps33
    go_wp2
    go_ret2
    exact ⟨_, rfl, RB.nil _ _ _, Only.refl _ _⟩
end
end Go.Proofs.YthkongkbefpilaaDoor
