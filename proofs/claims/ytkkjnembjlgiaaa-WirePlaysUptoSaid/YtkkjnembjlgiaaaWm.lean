/-
  A wire that a call has made (Wr); the walk of live; WireNumbers' walk.
-/
import Derived.Test.YtkkjnembjlgiaaaWl
namespace Go.Proofs.Ytkkjnembjlgiaaa
set_option maxRecDepth 100000
open Go.RowKit

theorem lit_conv (W : World) (C : Array Value) (n n1 g : Nat) (hn : C.size = n) (hn1 : n + 1 = n1) (hg : g = W.heap.size) :
    (convert 39 39 (.slice (some ⟨g, 0, none⟩) n n)).run Try.prog (W.alloc (.cells C 5)) = .ok (.slice (some ⟨g, 0, none⟩) n n) (W.alloc (.cells C 5 (n, n1))) := by
  subst hn hn1
  exact Joins.run_convert_bytes_const_at W 39 5 C _ _ g hg Try.underlying39 Try.underlying5
/-- A wire that this call has made. -/
structure Wr (w : World) (b : Nat) (s : WS) (W : World) : Prop where
  wire : ∃ F, IsWire w.heap.size W F b s
  only : Only Nil w W
section
variable {w W0 W1 W : World} {b : Nat} {s : WS}
theorem Wr.more (h : Wr w b s W0) (ho : Only Nil W0 W1) : Wr w b s W1 := by
  obtain ⟨⟨F, hF⟩, h1⟩ := h
  exact ⟨⟨F, hF.only ho fun _ _ => id⟩, h1.then ho⟩
theorem Wr.did {s' : WS} {F : Nat → Prop} (hF : IsWire w.heap.size W0 F b s) (h1 : Only Nil w W0) (hd : Did w.heap.size W0 F b s' W1) : Wr w b s' W1 := by
  obtain ⟨F', hw, _⟩ := hd.wire
  exact ⟨⟨F', hw⟩, h1.trans hd.only fun k hk => .inr (hF.own k hk).1⟩
theorem Wr.new (ho : Only Nil w W) : Calls Try.prog 8 #[] W fun e w' => ∃ b, e = .returned (.pointer (some ⟨b, 0, none⟩)) ∧ Wr w b ws0 w' :=
  (new_any W w.heap.size ho.size).mono fun _ _ ⟨b, F, e1, e2, e3, _⟩ => ⟨b, e1, ⟨F, e2⟩, ho.then e3⟩
theorem Wr.fates (h : Wr w b s W) (l : List Ft) (v : Value) (hv : RF W v l) (hn : s.fates.length + l.length ≤ 5864062014700) : Calls Try.prog 12 #[.pointer (some ⟨b, 0, none⟩), v] W fun e w' => e = .returned (.tuple #[]) ∧ Wr w b { s with fates := s.fates ++ l } w' := by
  obtain ⟨⟨F, hF⟩, h1⟩ := h
  exact (fates_any hF l v hv hn).mono fun e w' ⟨e1, e2⟩ => ⟨e1, Wr.did hF h1 e2⟩
theorem Wr.put (h : Wr w b s W0) (ho : Only Nil W0 W1) (hf : Fit s) (hfb : s.laid ≤ 900000000000000 ∧ s.lost ≤ 900000000000000) (n : Int) (hn : -9223372036854775808 ≤ n ∧ n ≤ 9223372036854775807) (v : Value) (bs : List UInt8) (hv : RB W1 v bs) (hl : bs.length ≤ 140737488355328)
    (hd : 0 < bs.length → ∀ k, blkOf v = some k → W0.heap.size ≤ k ∨ k < w.heap.size) : Calls Try.prog 13 #[.pointer (some ⟨b, 0, none⟩), .int .i64 n, v] W1 fun e w' => e = .returned (.tuple #[]) ∧ ∃ s', putR s n bs s' ∧ Wr w b s' w' := by
  obtain ⟨⟨F, hF⟩, h1⟩ := h
  refine (put_any (hF.only ho fun _ _ => id) hf hfb n hn v bs ⟨hv, fun h0 k hk hFk => ?_⟩ hl).mono fun e w' ⟨e1, s', e2, e3⟩ => ⟨e1, s', e2, Wr.did (hF.only ho fun _ _ => id) (h1.then ho) e3⟩
  have := hF.own k hFk
  rcases hd h0 k hk with e | e <;> omega
theorem Wr.next (h : Wr w b s W) : Calls Try.prog 15 #[.pointer (some ⟨b, 0, none⟩)] W fun e w' => e = .returned (.tuple #[.int .i64 (nextP s).1, .bool (nextP s).2]) ∧ w' = W := by
  obtain ⟨⟨F, hF⟩, _⟩ := h
  exact next_any hF
theorem Wr.len (h : Wr w b s W) : Calls Try.prog 16 #[.pointer (some ⟨b, 0, none⟩)] W fun e w' => e = .returned (.int .i64 (s.ways.length : Int)) ∧ w' = W := by
  obtain ⟨⟨F, hF⟩, _⟩ := h
  exact len_any hF
theorem Wr.lost (h : Wr w b s W) : Calls Try.prog 17 #[.pointer (some ⟨b, 0, none⟩)] W fun e w' => e = .returned (.int .i64 s.lost) ∧ w' = W := by
  obtain ⟨⟨F, hF⟩, _⟩ := h
  exact lost_any hF
/-- After Due. -/
def dueS (s : WS) (n : Int) : WS := { moveP s n with ways := (dueP s.ways (moveP s n).now).1 }
def dueO (s : WS) (n : Int) : List Wy := (dueP s.ways (moveP s n).now).2
theorem parts_of_rows {B B' : Nat} {v : Value} {l : List Wy} (h : W.ownsRow B 39 1 v l.length (l.map Wy.d)) (he : ∀ e ∈ l, OwnB B' W e.d e.bs) : Parts W v (l.map Wy.d) (l.map Wy.bs) := by
  refine ⟨?_, by simp, fun j hj => ?_⟩
  · by_cases h0 : 0 < l.length
    · obtain ⟨g, cap, rfl, hc, _, _, hcell⟩ := own_form h h0
      exact ⟨some ⟨g, 0, none⟩, cap, by simp, by simpa using hc, fun _ => ⟨g, 0, rfl, fun j hj => by rw [Nat.zero_add]; exact hcell j (by simpa using hj)⟩⟩
    · have hl : l = [] := List.eq_nil_of_length_eq_zero (by omega)
      subst hl
      rcases h.2 with ⟨rfl, _⟩ | ⟨g, cap, cur, rfl, _⟩
      · exact ⟨none, 0, rfl, Nat.le_refl _, fun h => absurd h (by simp)⟩
      · exact ⟨_, cap, rfl, Nat.zero_le _, fun h => absurd h (by simp)⟩
  · have hj' : j < l.length := by simpa using hj
    have := (he l[j] (List.getElem_mem hj'))
    have hr : RB W l[j].d l[j].bs := by
      rcases this.2 with ⟨e1, h0⟩ | ⟨g, cap, cur, e1, hBg, hcur, hnc, hcm, hcs, htk⟩
      · obtain hb : l[j].bs = [] := List.eq_nil_of_length_eq_zero h0
        rw [e1, hb]
        exact RB.nil _ _ _
      · rw [e1]
        refine ⟨_, cap, rfl, hnc, fun _ => ⟨g, 0, rfl, fun i hi => ?_⟩⟩
        have h2 := this
        unfold OwnB at h2
        rw [e1] at h2
        have := World.ownsRow.cells h2 (g := g) rfl i _ (BC_get _ i hi)
        rwa [Addr.add_mid] at this
    simpa [List.getD, hj'] using hr
theorem Wr.due (h : Wr w b s W) (hm : s.ways.length ≤ 4096) (n : Int) (hn : -9223372036854775808 ≤ n ∧ n ≤ 9223372036854775807) : Calls Try.prog 14 #[.pointer (some ⟨b, 0, none⟩), .int .i64 n] W fun e w' => ∃ vl, e = .returned vl ∧ Wr w b (dueS s n) w' ∧ Parts w' vl ((dueO s n).map Wy.d) ((dueO s n).map Wy.bs) := by
  obtain ⟨⟨F, hF⟩, h1⟩ := h
  refine (due_any hF hm n hn).mono fun e w' ⟨vl, e1, w1, F1, F', hd, hF1, hD⟩ => ⟨vl, e1, ⟨⟨F', hD.wire⟩, ?_⟩, parts_of_rows hD.row fun e he => (hD.frames e he).1⟩
  have hF2 : ∀ k, F1 k → Nil k ∨ w.heap.size ≤ k := fun k hk => .inr ((hF1 k hk).elim (fun h => (hF.own k h).1) fun h => Nat.le_trans h1.size h)
  exact (h1.trans hd.only fun k hk => .inr (hF.own k hk).1).trans hD.only hF2
end
theorem up_one (l : List Wy) (i : Nat) : up l i = if 0 < i ∧ aheadB (l.getD i wy0) (l.getD ((i - 1) / 2) wy0) = true then up (swapL l i ((i - 1) / 2)) ((i - 1) / 2) else l := by rw [up]
theorem live_push (a1 a2 a3 : Option Addr) (c1 c2 c3 : Nat) : pushP (pushP (pushP [] ⟨15, 1, a1, c1, [100]⟩) ⟨11, 2, a2, c2, [101]⟩) ⟨14, 3, a3, c3, [101]⟩ = [⟨11, 2, a2, c2, [101]⟩, ⟨15, 1, a1, c1, [100]⟩, ⟨14, 3, a3, c3, [101]⟩] := by
  have h1 : pushP [] ⟨15, 1, a1, c1, [100]⟩ = [⟨15, 1, a1, c1, [100]⟩] := by
    unfold pushP
    rw [up_one]
    rfl
  have h2 : pushP [⟨15, 1, a1, c1, [100]⟩] ⟨11, 2, a2, c2, [101]⟩ = [⟨11, 2, a2, c2, [101]⟩, ⟨15, 1, a1, c1, [100]⟩] := by
    unfold pushP
    rw [up_one, if_pos (by constructor <;> simp [aheadB]), up_one, if_neg (by simp)]
    simp [swapL]
  rw [h1, h2]
  unfold pushP
  rw [up_one, if_neg (by simp [aheadB])]
  rfl
theorem down_one (l : List Wy) (i : Nat) : down l i = if 2 * i + 1 < l.length ∧ aheadB (l.getD (kid l (2 * i + 1)) wy0) (l.getD i wy0) = true then down (swapL l i (kid l (2 * i + 1))) (kid l (2 * i + 1)) else l := by rw [down]
theorem live_due (a1 a2 a3 : Option Addr) (c1 c2 c3 : Nat) : dueP [⟨11, 2, a2, c2, [101]⟩, ⟨15, 1, a1, c1, [100]⟩, ⟨14, 3, a3, c3, [101]⟩] 15 = ([], [⟨11, 2, a2, c2, [101]⟩, ⟨14, 3, a3, c3, [101]⟩, ⟨15, 1, a1, c1, [100]⟩]) := by
  have h1 : popP [⟨11, 2, a2, c2, [101]⟩, ⟨15, 1, a1, c1, [100]⟩, ⟨14, 3, a3, c3, [101]⟩] = [⟨14, 3, a3, c3, [101]⟩, ⟨15, 1, a1, c1, [100]⟩] := by
    unfold popP
    show down [⟨14, 3, a3, c3, [101]⟩, ⟨15, 1, a1, c1, [100]⟩] 0 = _
    rw [down_one, if_neg (by simp [kid, kidB, aheadB])]
  have h2 : popP [⟨14, 3, a3, c3, [101]⟩, ⟨15, 1, a1, c1, [100]⟩] = [⟨15, 1, a1, c1, [100]⟩] := by
    unfold popP
    show down [⟨15, 1, a1, c1, [100]⟩] 0 = _
    rw [down_one, if_neg (by simp)]
  have h3 : popP [⟨15, 1, a1, c1, [100]⟩] = [] := by
    unfold popP
    show down [] 0 = _
    rw [down_one, if_neg (by simp)]
  rw [dueP_step (by constructor <;> simp), h1, dueP_step (by constructor <;> simp), h2, dueP_step (by constructor <;> simp), h3, dueP_stop (by simp)]
  rfl
theorem RF_row {W : World} {g : Nat} {l : List Ft} {t : TypeId} (h : Blk W g t (flatF l)) : RF W (.slice (some ⟨g, 0, none⟩) l.length l.length) l :=
  ⟨_, _, rfl, Nat.le_refl _, fun _ => ⟨g, 0, rfl, fun j u hj => by rw [Nat.zero_add, h.cell]; exact hj⟩⟩
theorem putR_lost {s s' : WS} {n : Int} {bs : List UInt8} {f : Ft} {r : List Ft} (hf : s.fates = f :: r) (hl : f.lost = true) (h : putR s n bs s') : s' = { sentP s n with lost := s.lost + 1 } := by
  unfold putR at h
  rw [hf] at h
  simpa [hl] using h
theorem live_states {s1 s2 s3 : WS} (h1 : putR { ws0 with fates := [⟨true, 0, 0⟩, ⟨false, 5, 0⟩, ⟨false, 1, 3⟩] } 10 [99] s1) (h2 : putR s1 10 [100] s2) (h3 : putR s2 10 [101] s3) :
    s1 = ⟨10, 0, 1, [], [⟨false, 5, 0⟩, ⟨false, 1, 3⟩]⟩ ∧ (∃ a1 c1, s2 = ⟨10, 1, 1, [⟨15, 1, a1, c1, [100]⟩], [⟨false, 1, 3⟩]⟩) ∧ ∃ a1 c1 a2 c2 a3 c3, s3 = ⟨10, 3, 1, [⟨11, 2, a2, c2, [101]⟩, ⟨15, 1, a1, c1, [100]⟩, ⟨14, 3, a3, c3, [101]⟩], []⟩ := by
  have e1 : s1 = ⟨10, 0, 1, [], [⟨false, 5, 0⟩, ⟨false, 1, 3⟩]⟩ := by
    have := putR_lost (f := ⟨true, 0, 0⟩) rfl rfl h1
    rw [this]
    rfl
  subst e1
  have e2 : ∃ a1 c1, s2 = ⟨10, 1, 1, pushP [] ⟨15, 1, a1, c1, [100]⟩, [⟨false, 1, 3⟩]⟩ := by
    unfold putR layR at h2
    simp at h2
    rw [if_neg (by show ¬ 4096 ≤ 0; decide)] at h2
    obtain ⟨a, c, rfl⟩ := h2
    exact ⟨a, c, rfl⟩
  obtain ⟨a1, c1, rfl⟩ := e2
  have hp : pushP [] ⟨15, 1, a1, c1, [100]⟩ = [⟨15, 1, a1, c1, [100]⟩] := by
    unfold pushP
    rw [up_one]
    rfl
  rw [hp] at h3 ⊢
  refine ⟨rfl, ⟨a1, c1, rfl⟩, ?_⟩
  unfold putR at h3
  obtain ⟨x, hx, hy⟩ := by simpa using h3
  unfold layR at hx
  obtain ⟨a2, c2, rfl⟩ := by simpa using hx
  unfold layR at hy
  rw [if_neg (by show ¬ 4096 ≤ (pushP _ _).length; rw [pushP_length]; show ¬ 4096 ≤ 1 + 1; decide)] at hy
  obtain ⟨a3, c3, rfl⟩ := hy
  refine ⟨a1, c1, a2, c2, a3, c3, ?_⟩
  have := live_push a1 a2 a3 c1 c2 c3
  rw [hp] at this
  rw [← this]
  rfl
end Go.Proofs.Ytkkjnembjlgiaaa
