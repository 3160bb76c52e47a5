/-
  The book of lists that came out (slipwayref01.Book): Take.
-/
import Derived.Test.YtkkjnembjlgiaaaWo
namespace Go.Proofs.Ytkkjnembjlgiaaa
set_option maxRecDepth 100000
open Go.RowKit

theorem info_rowB : (Try.prog.info? 39).map (fun i => (i.zero, i.size, i.bytes)) = some (some (.slice none 0 0), 1, 24) := by kernel_rfl
theorem info_strB : (Try.prog.info? 9).map (fun i => (i.zero, i.size, i.bytes)) = some (some (.string ByteArray.empty), 1, 16) := by kernel_rfl
abbrev Ls : Type := Value × List UInt8
def FarL (x y : Ls) : Prop := ∀ k, x.1.ownBlock = some k → y.1.ownBlock ≠ some k
theorem FarL.symm {x y : Ls} (h : FarL x y) : FarL y x := fun k h1 h2 => h k h2 h1
def strs (ls : List Ls) : List Value := ls.map fun x => .string (str x.2)
structure BookAt (B : Nat) (w : World) (F : Nat → Prop) (kb : Nat) (vl vw : Value) (ls : List Ls) : Prop where
  blk : Blk w kb 34 [vl, vw]
  lists : w.ownsRow B 39 1 vl ls.length (ls.map (·.1))
  was : w.ownsRow B 9 1 vw ls.length (strs ls)
  each : ∀ x ∈ ls, OwnB B w x.1 x.2
  far : ls.Pairwise FarL
  foot : F kb ∧ (∀ k, vl.ownBlock = some k → F k) ∧ (∀ k, vw.ownBlock = some k → F k) ∧ ∀ x ∈ ls, ∀ k, x.1.ownBlock = some k → F k
structure IsBook (B : Nat) (w : World) (F : Nat → Prop) (kb : Nat) (ls : List Ls) : Prop where
  at' : ∃ vl vw, BookAt B w F kb vl vw ls
  own : ∀ k, F k → B ≤ k ∧ k < w.heap.size
  base : B ≤ w.heap.size
section
variable {B : Nat} {w w' w1 w2 : World} {F S : Nat → Prop} {kb : Nat} {vl vw : Value} {ls : List Ls}
theorem BookAt.only (h : BookAt B w F kb vl vw ls) (ho : Only S w w') (hS : ∀ k, F k → ¬ S k) : BookAt B w' F kb vl vw ls :=
  ⟨ho.blk h.blk (hS kb h.foot.1), own_only h.lists ho fun k hk => hS k (h.foot.2.1 k hk), own_only h.was ho fun k hk => hS k (h.foot.2.2.1 k hk),
    fun x hx => own_only (h.each x hx) ho fun k hk => hS k (h.foot.2.2.2 x hx k hk), h.far, h.foot⟩
theorem IsBook.only (h : IsBook B w F kb ls) (ho : Only S w w') (hS : ∀ k, F k → ¬ S k) : IsBook B w' F kb ls := by
  obtain ⟨vl, vw, hA⟩ := h.at'
  exact ⟨⟨vl, vw, hA.only ho hS⟩, fun k hk => ⟨(h.own k hk).1, Nat.lt_of_lt_of_le (h.own k hk).2 ho.size⟩, Nat.le_trans h.base ho.size⟩
theorem own_slice1 {e : TypeId} {v : Value} {n : Nat} {xs : List Value} (h : w.ownsRow B e 1 v n xs) : ∃ A c, v = .slice A n c := by
  rcases h.2 with ⟨rfl, h0⟩ | ⟨g, cap, cur, rfl, _⟩
  · exact ⟨none, 0, by rw [h0]⟩
  · exact ⟨_, _, rfl⟩
/-- The first field's row grows. -/
theorem BookAt.grewL (h : BookAt B w F kb vl vw ls) {x : Value} {g cap : Nat} (h1 : Only Nil w w1) (hg : Grew w1 w2 B 39 vl ls.length 1 (ls.map (·.1)) [x] g cap) :
    Blk (w2.setCell ⟨kb, 0, none⟩ (.slice (some ⟨g, 0, none⟩) (ls.length + 1) cap)) kb 34 [.slice (some ⟨g, 0, none⟩) (ls.length + 1) cap, vw] ∧
      (w2.setCell ⟨kb, 0, none⟩ (.slice (some ⟨g, 0, none⟩) (ls.length + 1) cap)).ownsRow B 39 1 (.slice (some ⟨g, 0, none⟩) (ls.length + 1) cap) (ls.length + 1) (ls.map (·.1) ++ [x]) ∧
      Only F w (w2.setCell ⟨kb, 0, none⟩ (.slice (some ⟨g, 0, none⟩) (ls.length + 1) cap)) ∧ (∀ {t : TypeId} {n : Nat} {v : Value} {xs : List Value} {B' : Nat}, w.ownsRow B' t 1 v n xs → t ≠ 39 → t ≠ 34 → (w2.setCell ⟨kb, 0, none⟩ (.slice (some ⟨g, 0, none⟩) (ls.length + 1) cap)).ownsRow B' t 1 v n xs) ∧ (vl.ownBlock = some g ∨ w1.heap.size ≤ g) ∧ w2.cell? ⟨kb, 0, none⟩ = some vl ∧ w2.frozen? ⟨kb, 0, none⟩ = false := by
  have h' := h.only h1 fun _ _ e => e
  have hn : vl.ownBlock ≠ some kb := ownN_far h'.lists h'.blk (by decide)
  have hO : Only (fun k => vl.ownBlock = some k) w1 w2 := Only.of_grown hg.grown fun k hk => .inl hk
  have hb := hO.blk h'.blk hn
  have ho : Only (One kb) w2 (w2.setCell ⟨kb, 0, none⟩ (.slice (some ⟨g, 0, none⟩) (ls.length + 1) cap)) := (Only.refl _ _).setCell (p := ⟨kb, 0, none⟩) (.inl (One.self kb)) _
  have hgk : g ≠ kb := fun e => by
    rcases hg.at' with h2 | h2
    · exact hn (by rw [h2, e])
    · have := h'.blk.lt
      omega
  refine ⟨hb.set 0 _, own_only hg.own ho fun k hk e => hgk (by have : g = k := Option.some.inj hk; rw [this]; exact e), ((h1.mono (T := F) fun _ _ e => e.elim).trans hO fun k hk => .inl (h.foot.2.1 k hk)).setCell (p := ⟨kb, 0, none⟩) (.inl h.foot.1) _, fun {t n v xs B'} hr ht1 ht2 => ?_, hg.at'.imp id fun e => Nat.le_of_eq e.symm, hb.cell 0, hb.free 0⟩
  have hr1 := own_only hr h1 fun _ _ e => e
  have hr2 := own_only hr1 hO fun k hk e => by
    obtain ⟨cs, hbl⟩ := blk_of_own h'.lists e
    exact ownN_far hr1 hbl ht1 hk
  exact own_only hr2 ho fun k hk e => ownN_far hr2 hb ht2 (by rw [hk, show k = kb from e])
theorem BookAt.grewW {w0 : World} (hb0 : Blk w kb 34 [vl, vw]) {xs : List Value} {n : Nat} (hw : w.ownsRow B 9 1 vw n xs) {x : Value} {g cap : Nat} (h1 : Only Nil w w1) (hg : Grew w1 w2 B 9 vw n 1 xs [x] g cap)
    (h0 : Only F w0 w) (hF : F kb ∧ ∀ k, vw.ownBlock = some k → F k) :
    Blk (w2.setCell ⟨kb, 1, none⟩ (.slice (some ⟨g, 0, none⟩) (n + 1) cap)) kb 34 [vl, .slice (some ⟨g, 0, none⟩) (n + 1) cap] ∧
      (w2.setCell ⟨kb, 1, none⟩ (.slice (some ⟨g, 0, none⟩) (n + 1) cap)).ownsRow B 9 1 (.slice (some ⟨g, 0, none⟩) (n + 1) cap) (n + 1) (xs ++ [x]) ∧
      Only F w0 (w2.setCell ⟨kb, 1, none⟩ (.slice (some ⟨g, 0, none⟩) (n + 1) cap)) ∧ (∀ {t : TypeId} {n' : Nat} {v : Value} {ys : List Value} {B' : Nat}, w.ownsRow B' t 1 v n' ys → t ≠ 9 → t ≠ 34 → (w2.setCell ⟨kb, 1, none⟩ (.slice (some ⟨g, 0, none⟩) (n + 1) cap)).ownsRow B' t 1 v n' ys) ∧ (vw.ownBlock = some g ∨ w1.heap.size ≤ g) ∧ w2.cell? ⟨kb, 1, none⟩ = some vw ∧ w2.frozen? ⟨kb, 1, none⟩ = false := by
  have hw1 := own_only hw h1 fun _ _ e => e
  have hb1 := h1.blk hb0 id
  have hn : vw.ownBlock ≠ some kb := ownN_far hw1 hb1 (by decide)
  have hO : Only (fun k => vw.ownBlock = some k) w1 w2 := Only.of_grown hg.grown fun k hk => .inl hk
  have hb := hO.blk hb1 hn
  have ho : Only (One kb) w2 (w2.setCell ⟨kb, 1, none⟩ (.slice (some ⟨g, 0, none⟩) (n + 1) cap)) := (Only.refl _ _).setCell (p := ⟨kb, 1, none⟩) (.inl (One.self kb)) _
  have hgk : g ≠ kb := fun e => by
    rcases hg.at' with h2 | h2
    · exact hn (by rw [h2, e])
    · have := hb1.lt
      omega
  refine ⟨hb.set 1 _, own_only hg.own ho fun k hk e => hgk (by have : g = k := Option.some.inj hk; rw [this]; exact e), (h0.then ((h1.mono (T := F) fun _ _ e => e.elim).trans hO fun k hk => .inl (hF.2 k hk))).setCell (p := ⟨kb, 1, none⟩) (.inl hF.1) _, fun {t n' v ys B'} hr ht1 ht2 => ?_, hg.at'.imp id fun e => Nat.le_of_eq e.symm, hb.cell 1, hb.free 1⟩
  have hr1 := own_only hr h1 fun _ _ e => e
  have hr2 := own_only hr1 hO fun k hk e => by
    obtain ⟨cs, hbl⟩ := blk_of_own hw1 e
    exact ownN_far hr1 hbl ht1 hk
  exact own_only hr2 ho fun k hk e => ownN_far hr2 hb ht2 (by rw [hk, show k = kb from e])
end
end Go.Proofs.Ytkkjnembjlgiaaa
