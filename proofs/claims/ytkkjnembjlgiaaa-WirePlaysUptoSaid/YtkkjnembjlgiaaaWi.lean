/-
  Due: what has come, taken off the wire.
-/
import Derived.Test.YtkkjnembjlgiaaaWh
namespace Go.Proofs.Ytkkjnembjlgiaaa
set_option maxRecDepth 100000
open Go.RowKit

def dueP (l : List Wy) (now : Int) : List Wy × List Wy :=
  if 0 < l.length ∧ (l.getD 0 wy0).due ≤ now then ((dueP (popP l) now).1, l.getD 0 wy0 :: (dueP (popP l) now).2) else (l, [])
termination_by l.length
decreasing_by
  all_goals
    rename_i h
    rw [popP_length l h.1]
    omega
theorem dueP_step {l : List Wy} {now : Int} (h : 0 < l.length ∧ (l.getD 0 wy0).due ≤ now) : dueP l now = ((dueP (popP l) now).1, l.getD 0 wy0 :: (dueP (popP l) now).2) := by
  rw [dueP, if_pos h]
theorem dueP_stop {l : List Wy} {now : Int} (h : ¬ (0 < l.length ∧ (l.getD 0 wy0).due ≤ now)) : dueP l now = (l, []) := by
  rw [dueP, if_neg h]
section
variable {B : Nat} {w w' w1 w2 w3 : World} {F F' F1 S : Nat → Prop} {b : Nat} {v vl vw vf v' : Value} {bs : List UInt8} {s s1 s' : WS} {m outs : List Wy}
structure DueAt (B : Nat) (w : World) (F1 : Nat → Prop) (b : Nat) (s1 : WS) (vl : Value) (wr : World) (m outs : List Wy) (F' : Nat → Prop) : Prop where
  wire : IsWire B wr F' b { s1 with ways := m }
  row : wr.ownsRow w.heap.size 39 1 vl outs.length (outs.map Wy.d)
  frames : ∀ e ∈ outs, OwnB B wr e.d e.bs ∧ ∀ k, e.d.ownBlock = some k → F1 k ∧ ¬ F' k
  far : outs.Pairwise Far
  sub : ∀ k, F' k → F1 k
  low : ∀ k, F1 k → k < w.heap.size
  only : Only F1 w wr
  rest : dueP s1.ways s1.now = ((dueP m s1.now).1, outs ++ (dueP m s1.now).2)
theorem DueAt.nil (h : DueAt B w F1 b s1 vl w1 m outs F') (ho : Only Nil w1 w2) : DueAt B w F1 b s1 vl w2 m outs F' :=
  ⟨h.wire.only ho fun _ _ e => e, own_only h.row ho fun _ _ e => e, fun e he => ⟨own_only (h.frames e he).1 ho fun _ _ e => e, (h.frames e he).2⟩, h.far, h.sub, h.low, h.only.then (ho.mono fun _ _ e => e.elim), h.rest⟩
/-- One is popped. -/
def Less (F : Nat → Prop) (e : Wy) : Nat → Prop := fun k => F k ∧ e.d.ownBlock ≠ some k
theorem WireAt.popped (hA : WireAt B w F b vw vf s) (h0 : 0 < s.ways.length) (h1 : Only (fun k => vw.ownBlock = some k) w w1) (hw : OwW B w1 v' (popP s.ways)) (hv : v'.ownBlock = vw.ownBlock) :
    WireAt B (w1.setCell ⟨b, 3, none⟩ v') (Less F (s.ways.getD 0 wy0)) b v' vf { s with ways := popP s.ways } ∧ (∀ e ∈ s.ways, OwnB B (w1.setCell ⟨b, 3, none⟩ v') e.d e.bs) ∧ Only F w (w1.setCell ⟨b, 3, none⟩ v') := by
  have hbv : vw.ownBlock ≠ some b := ownN_far hA.ways hA.blk wire_ne_way
  have hb1 := h1.blk hA.blk hbv
  have ho : Only (One b) w1 (w1.setCell ⟨b, 3, none⟩ v') := (Only.refl _ _).setCell (p := ⟨b, 3, none⟩) (.inl (One.self b)) v'
  have hf1 : OwF B w1 vf s.fates := hA.fates.only h1 fun k hk e => by
    rcases hA.fates with ⟨rfl, _⟩ | ⟨g, o, cap, cs, rfl, _, hg, _⟩
    · cases hk
    · obtain rfl : g = k := Option.some.inj hk
      exact ownN_far hA.ways hg (by decide) e
  have hbyte : ∀ e ∈ s.ways, OwnB B (w1.setCell ⟨b, 3, none⟩ v') e.d e.bs := fun e he => by
    have he1 : OwnB B w1 e.d e.bs := own_only (hA.each e he) h1 fun k hk e' => by
      rcases hA.ways.form with ⟨rfl, _⟩ | ⟨g, cap, rfl⟩
      · cases e'
      · obtain rfl : g = k := Option.some.inj e'
        obtain ⟨_, _, _, cs, hg, _⟩ := OwW.row (l := s.ways) hA.ways
        exact ownN_far (hA.each e he) hg (by decide) hk
    exact own_only he1 ho fun k hk e' => ownN_far he1 hb1 (by decide) (by rw [hk, show k = b from e'])
  have hp := popP_perm s.ways h0
  have hmem : ∀ e, e ∈ popP s.ways → e ∈ s.ways := fun e he => hp.mem_iff.2 (List.mem_cons_of_mem _ he)
  have hfst : s.ways.getD 0 wy0 ∈ s.ways := hp.mem_iff.2 (List.mem_cons_self ..)
  have hpw := hA.far.perm hp fun h => Far.symm h
  rw [List.pairwise_cons] at hpw
  have hX := hA.each _ hfst
  refine ⟨⟨hb1.set 3 v', ?_, ?_, fun e he => hbyte e (hmem e he), hpw.2, ⟨⟨hA.foot.1, ?_⟩, fun k hk => ⟨hA.foot.2.1 k (by rw [← hv]; exact hk), ?_⟩, fun k hk => ⟨hA.foot.2.2.1 k hk, ?_⟩, fun e he k hk => ⟨hA.foot.2.2.2 e (hmem e he) k hk, fun h => hpw.1 e he k h hk⟩⟩⟩, hbyte, (h1.mono fun k _ hk => hA.foot.2.1 k hk).setCell (p := ⟨b, 3, none⟩) (.inl hA.foot.1) _⟩
  · exact ownN_only hw ho fun k hk e => hbv (by rw [← hv, hk, show k = b from e])
  · exact hf1.only ho fun k hk e => fate_far hf1 hb1 (by decide) (by rw [hk, show k = b from e])
  · exact ownN_far hX hA.blk (by decide)
  · rw [hv] at hk
    rcases hA.ways.form with ⟨rfl, _⟩ | ⟨g, cap, rfl⟩
    · cases hk
    · obtain rfl : g = k := Option.some.inj hk
      obtain ⟨_, _, _, cs, hg, _⟩ := OwW.row (l := s.ways) hA.ways
      exact ownN_far hX hg (by decide)
  · rcases hA.fates with ⟨rfl, _⟩ | ⟨g, o, cap, cs, rfl, _, hg, _⟩
    · cases hk
    · obtain rfl : g = k := Option.some.inj hk
      exact ownN_far hX hg (by decide)
/-- It is popped, and laid behind those that came out. -/
theorem DueAt.step {x0 : Wy} {g cap : Nat} (h : DueAt B w F1 b s1 vl w1 m outs F') (hA : WireAt B w1 F' b vw vf { s1 with ways := m }) (h0 : 0 < m.length ∧ (m.getD 0 wy0).due ≤ s1.now)
    (hA2 : WireAt B w2 (Less F' (m.getD 0 wy0)) b v' vf { s1 with ways := popP m }) (hby : ∀ e ∈ m, OwnB B w2 e.d e.bs) (ho : Only F' w1 w2) (hs : x0 = m.getD 0 wy0)
    (hg : Grew w2 w3 w.heap.size 39 vl outs.length 1 (outs.map Wy.d) [x0.d] g cap) :
    DueAt B w F1 b s1 (.slice (some ⟨g, 0, none⟩) (outs.length + 1) cap) w3 (popP m) (outs ++ [x0]) (Less F' (m.getD 0 wy0)) := by
  subst hs
  have hOn : Only (fun k => vl.ownBlock = some k) w2 w3 := Only.of_grown hg.grown fun i hi => .inl hi
  have hvl : ∀ k, vl.ownBlock = some k → w.heap.size ≤ k := fun k hk => (own_block h.row k hk).1
  have hfar : ∀ k, F1 k → ¬ vl.ownBlock = some k := fun k hk e => by have := h.low k hk; have := hvl k e; omega
  have hin : m.getD 0 wy0 ∈ m := (popP_perm m h0.1).mem_iff.2 (List.mem_cons_self ..)
  refine ⟨⟨⟨v', vf, hA2.only hOn fun k hk => hfar k (h.sub k hk.1)⟩, fun k hk => ⟨(h.wire.own k hk.1).1, Nat.lt_of_lt_of_le (h.wire.own k hk.1).2 (Nat.le_trans ho.size hOn.size)⟩, Nat.le_trans h.wire.base (Nat.le_trans ho.size hOn.size)⟩, ?_, ?_, ?_, fun k hk => h.sub k hk.1, h.low, ?_, ?_⟩
  · have := hg.own
    simpa using this
  · intro e he
    rcases List.mem_append.1 he with he | he
    · obtain ⟨h1, h2⟩ := h.frames e he
      refine ⟨own_only (own_only h1 ho fun k hk => (h2 k hk).2) hOn fun k hk => hfar k (h2 k hk).1, fun k hk => ⟨(h2 k hk).1, fun h' => (h2 k hk).2 h'.1⟩⟩
    · obtain rfl : e = m.getD 0 wy0 := by simpa using he
      exact ⟨own_only (hby _ hin) hOn fun k hk => hfar k (h.sub k (hA.foot.2.2.2 _ hin k hk)), fun k hk => ⟨h.sub k (hA.foot.2.2.2 _ hin k hk), fun h' => h'.2 hk⟩⟩
  · rw [List.pairwise_append]
    refine ⟨h.far, List.pairwise_singleton _ _, fun e he e' he' k hk hk' => ?_⟩
    obtain rfl : e' = m.getD 0 wy0 := by simpa using he'
    exact ((h.frames e he).2 k hk).2 (hA.foot.2.2.2 _ hin k hk')
  · exact (h.only.then (ho.mono fun k _ hk => h.sub k hk)).trans hOn fun k hk => .inr (hvl k hk)
  · rw [h.rest, dueP_step h0]
    simp
end
end Go.Proofs.Ytkkjnembjlgiaaa
