/-
  The document's wire (slipwayref22): Due.
-/
import Derived.Test.YtkkjnembjlgiaaaVd
import Derived.Test.YtkkjnembjlgiaaaBk3
namespace Go.Proofs.Ytkkjnembjlgiaaa
set_option maxRecDepth 100000
open Go.RowKit

/-- What is due is taken out, one by one. -/
inductive DueQ (now : Int) : List Wy → List Wy → List Wy → Prop where
  | stop {m : List Wy} (h : m.length = 0 ∨ ∃ k, IsFst m m.length k ∧ now < (m.getD k wy0).due) : DueQ now m m []
  | step {m m' os : List Wy} {k : Nat} (h : IsFst m m.length k) (hd : (m.getD k wy0).due ≤ now) (r : DueQ now (m.eraseIdx k) m' os) : DueQ now m m' (m.getD k wy0 :: os)
theorem rest_succ (m : List Wy) (i k : Nat) (hi : i < m.length) : (m.take (i + 1)).eraseIdx k = if i = k then (m.take i).eraseIdx k else (m.take i).eraseIdx k ++ [m.getD i wy0] := by
  have e : m.take (i + 1) = m.take i ++ [m.getD i wy0] := by
    rw [List.take_add_one, List.getElem?_eq_getElem hi]
    simp [List.getD, hi]
  have hl : (m.take i).length = i := by rw [List.length_take]; omega
  rw [e]
  by_cases h : i = k
  · subst h
    rw [if_pos rfl, List.eraseIdx_append_of_length_le (by omega), hl, Nat.sub_self, List.eraseIdx_of_length_le (l := m.take i) (by omega)]
    simp
  · rw [if_neg h]
    by_cases h2 : k < i
    · rw [List.eraseIdx_append_of_lt_length (by omega)]
    · rw [List.eraseIdx_append_of_length_le (by omega), hl, List.eraseIdx_of_length_le (l := m.take i) (by omega), List.eraseIdx_of_length_le (by simp; omega)]
section
variable {B : Nat} {w w' W w1 w2 : World} {F F' F1 S : Nat → Prop} {b : Nat} {v vl vw vf v' : Value} {s s1 s' : WS} {m outs : List Wy}
structure DueV (B : Nat) (w : World) (F1 : Nat → Prop) (b : Nat) (s1 : WS) (vl : Value) (wr : World) (m outs : List Wy) (F' : Nat → Prop) : Prop where
  vire : IsVire B wr F' b { s1 with ways := m }
  row : wr.ownsRow w.heap.size 39 1 vl outs.length (outs.map Wy.d)
  frames : ∀ e ∈ outs, OwnB B wr e.d e.bs ∧ e ∈ s1.ways
  ne : ∀ k, vl.ownBlock = some k → ¬ F' k
  sub : ∀ k, F' k → F1 k ∨ w.heap.size ≤ k
  inn : ∀ e ∈ m, e ∈ s1.ways
  only : Only F1 w wr
  rest : ∀ m' os, DueQ s1.now m m' os → DueQ s1.now s1.ways m' (outs ++ os)
theorem DueV.nil (h : DueV B w F1 b s1 vl w1 m outs F') (ho : Only Nil w1 w2) : DueV B w F1 b s1 vl w2 m outs F' :=
  ⟨h.vire.nil ho, own_only h.row ho fun _ _ e => e, fun e he => ⟨own_only (h.frames e he).1 ho fun _ _ e => e, (h.frames e he).2⟩, h.ne, h.sub, h.inn, h.only.then (ho.mono fun _ _ e => e.elim), h.rest⟩
/-- One is put behind those that came out. -/
theorem DueV.out {x : Wy} {g cap : Nat} (h : DueV B w F1 b s1 vl w1 m outs F') (h1 : Only Nil w1 w2) (hg : Grew w2 W w.heap.size 39 vl outs.length 1 (outs.map Wy.d) [x.d] g cap) (hx : x ∈ m) :
    IsVire B W F' b { s1 with ways := m } ∧ W.ownsRow w.heap.size 39 1 (.slice (some ⟨g, 0, none⟩) (outs.length + 1) cap) (outs ++ [x]).length ((outs ++ [x]).map Wy.d) ∧ (∀ e ∈ outs ++ [x], OwnB B W e.d e.bs ∧ e ∈ s1.ways) ∧ ¬ F' g ∧ Only F1 w W := by
  have h2 := h.nil h1
  have hO : Only (fun k => vl.ownBlock = some k) w2 W := Only.of_grown hg.grown fun k hk => .inl hk
  have hfr : ∀ {B' : Nat} {v : Value} {l : List UInt8}, OwnB B' w2 v l → OwnB B' W v l := fun he => own_only he hO fun k hk e => by
    obtain ⟨cs, hb⟩ := blk_of_own he hk
    exact ownN_far h2.row hb (by decide) e
  have hv := h2.vire.only hO (fun k hk e => h2.ne k e hk) fun k hk e => by
    obtain ⟨_, cs, hb⟩ := h2.vire.frs hk
    exact ownN_far h2.row hb (by decide) e
  obtain ⟨vw, vf, hA⟩ := h2.vire.at'
  refine ⟨hv, ?_, fun e he => ?_, fun hF => ?_, h2.only.trans hO fun k hk => .inr (own_block h2.row k hk).1⟩
  · rw [List.length_append, List.map_append]
    exact hg.own
  · rcases List.mem_append.1 he with he | he
    · exact ⟨hfr (h2.frames e he).1, (h2.frames e he).2⟩
    · rw [List.mem_singleton.1 he]
      exact ⟨hfr (hA.each x hx), h2.inn x hx⟩
  · rcases hg.at' with e | e
    · exact h2.ne g e hF
    · have := (h2.vire.own g hF).2
      omega
/-- What is left is laid down. -/
theorem VireAt.less (hA : VireAt B w F b vw vf s) {vr : Value} {m : List Wy} (hr : OwV B w vr m) (hm : ∀ e ∈ m, e ∈ s.ways) (hF : ∀ k, vr.ownBlock = some k → F k) : VireAt B (w.setCell ⟨b, 1, none⟩ vr) F b vr vf { s with ways := m } := by
  have ho : Only (One b) w (w.setCell ⟨b, 1, none⟩ vr) := (Only.refl _ _).setCell (p := ⟨b, 1, none⟩) (.inl (One.self b)) vr
  refine ⟨hA.blk.set 1 vr, ?_, ?_, fun e he => ?_, ⟨hA.foot.1, hF, hA.foot.2.2⟩⟩
  · exact ownN_only hr ho fun k hk e => ownN_far hr hA.blk (by decide) (by rw [hk, show k = b from e])
  · exact hA.fates.only ho fun k hk e => fate_far hA.fates hA.blk (by decide) (by rw [hk, show k = b from e])
  · exact own_only (hA.each e (hm e he)) ho fun k hk e' => ownN_far (hA.each e (hm e he)) hA.blk (by decide) (by rw [hk, show k = b from e'])
end
end Go.Proofs.Ytkkjnembjlgiaaa
