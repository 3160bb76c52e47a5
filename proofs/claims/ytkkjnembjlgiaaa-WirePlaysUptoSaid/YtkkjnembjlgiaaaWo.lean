/-
  What a wire's calls leave alone, by type; rows of numbers beside it.
-/
import Derived.Test.YtkkjnembjlgiaaaWq
namespace Go.Proofs.Ytkkjnembjlgiaaa
set_option maxRecDepth 100000
open Go.RowKit

def WireT (t : TypeId) : Prop := t = 56 ∨ t = 68 ∨ t = 46 ∨ t = 5
def Keeps (W W' : World) : Prop := ∀ k t cs, Blk W k t cs → ¬ WireT t → Blk W' k t cs
section
variable {B : Nat} {w W W' W0 W1 : World} {F : Nat → Prop} {b : Nat} {s : WS}
theorem Keeps.refl (W : World) : Keeps W W := fun _ _ _ h _ => h
theorem Keeps.then (h : Keeps W W') (k : Keeps W' W1) : Keeps W W1 := fun i t cs hb ht => k i t cs (h i t cs hb ht) ht
theorem Keeps.nil (h : Only Nil W W') : Keeps W W' := fun _ _ _ hb _ => h.blk hb id
theorem blk_of_own {e : TypeId} {sz n : Nat} {v : Value} {xs : List Value} (h : W.ownsRow B e sz v n xs) {k : Nat} (hk : v.ownBlock = some k) : ∃ cs, Blk W k e cs := by
  rcases h.2 with ⟨rfl, _⟩ | ⟨g, cap, cur, rfl, _, hg, _⟩
  · cases hk
  · obtain rfl : g = k := Option.some.inj hk
    exact ⟨cur.toList, by unfold Blk; simpa using hg⟩
/-- Only what it needs. -/
def Tight (F : Nat → Prop) (W : World) : Nat → Prop := fun k => F k ∧ ∃ t cs, Blk W k t cs ∧ WireT t
theorem IsWire.tight (h : IsWire B W F b s) : IsWire B W (Tight F W) b s := by
  obtain ⟨vw, vf, hA⟩ := h.at'
  refine ⟨⟨vw, vf, hA.blk, hA.ways, hA.fates, hA.each, hA.far, ⟨hA.foot.1, _, _, hA.blk, .inl rfl⟩, fun k hk => ⟨hA.foot.2.1 k hk, ?_⟩, fun k hk => ⟨hA.foot.2.2.1 k hk, ?_⟩, fun e he k hk => ⟨hA.foot.2.2.2 e he k hk, ?_⟩⟩, fun k hk => h.own k hk.1, h.base⟩
  · obtain ⟨cs, hb⟩ := blk_of_own hA.ways hk
    exact ⟨_, cs, hb, .inr (.inl rfl)⟩
  · rcases hA.fates with ⟨rfl, _⟩ | ⟨g, o, cap, cs, rfl, _, hg, _⟩
    · cases hk
    · obtain rfl : g = k := Option.some.inj hk
      exact ⟨_, cs, hg, .inr (.inr (.inl rfl))⟩
  · obtain ⟨cs, hb⟩ := blk_of_own (hA.each e he) hk
    exact ⟨_, cs, hb, .inr (.inr (.inr rfl))⟩
theorem blk_type {t t' : TypeId} {cs cs' : List Value} {k : Nat} (h : Blk W k t cs) (h' : Blk W k t' cs') : t = t' := by
  unfold Blk at h h'
  rw [h] at h'
  injection h' with h'
  injection h'
theorem tight_far {t : TypeId} {cs : List Value} {k : Nat} (hb : Blk W k t cs) (ht : ¬ WireT t) : ¬ Tight F W k := fun ⟨_, t', cs', hb', ht'⟩ => ht (by rw [blk_type hb hb']; exact ht')
theorem Keeps.only (ho : Only (Tight F W) W W') : Keeps W W' := fun _ _ _ hb ht => ho.blk hb (tight_far hb ht)
theorem Wr.put2 (h : Wr w b s W0) (ho : Only Nil W0 W1) (hf : Fit s) (hfb : s.laid ≤ 900000000000000 ∧ s.lost ≤ 900000000000000) (n : Int) (hn : -9223372036854775808 ≤ n ∧ n ≤ 9223372036854775807) (v : Value) (bs : List UInt8) (hv : RB W1 v bs) (hl : bs.length ≤ 140737488355328)
    (hd : 0 < bs.length → ∀ k, blkOf v = some k → W0.heap.size ≤ k ∨ k < w.heap.size) : Calls Try.prog 13 #[.pointer (some ⟨b, 0, none⟩), .int .i64 n, v] W1 fun e w' => e = .returned (.tuple #[]) ∧ ∃ s', putR s n bs s' ∧ Wr w b s' w' ∧ Keeps W1 w' ∧ ∀ k t cs, W0.heap.size ≤ k → Blk W1 k t cs → Blk w' k t cs := by
  obtain ⟨⟨F, hF⟩, h1⟩ := h
  have hT := (hF.tight.only ho fun _ _ => id)
  have hFk : ∀ k, Tight F W0 k → w.heap.size ≤ k ∧ k < W0.heap.size := fun k hk => hF.own k hk.1
  have hT2 := hT.tight
  refine (put_any hT2 hf hfb n hn v bs ⟨hv, fun h0 k hk hFk' => ?_⟩ hl).mono fun e w' ⟨e1, s', e2, e3⟩ => ⟨e1, s', e2, Wr.did hT2 (h1.then ho) e3, Keeps.only e3.only, fun k t cs hk hb => e3.only.blk hb fun h => by have := hFk k h.1; omega⟩
  have := hFk k hFk'.1
  rcases hd h0 k hk with e | e <;> omega
theorem Wr.due2 (h : Wr w b s W) (hm : s.ways.length ≤ 4096) (n : Int) (hn : -9223372036854775808 ≤ n ∧ n ≤ 9223372036854775807) : Calls Try.prog 14 #[.pointer (some ⟨b, 0, none⟩), .int .i64 n] W fun e w' => ∃ vl, e = .returned vl ∧ Wr w b (dueS s n) w' ∧ w'.ownsRow w.heap.size 39 1 vl (dueO s n).length ((dueO s n).map Wy.d) ∧ (∀ e ∈ dueO s n, OwnB w.heap.size w' e.d e.bs) ∧ Keeps W w' := by
  obtain ⟨⟨F, hF⟩, h1⟩ := h
  refine (due_any hF.tight hm n hn).mono fun e w' ⟨vl, e1, w1, F1, F', hd, hF1, hD⟩ => ⟨vl, e1, ⟨⟨F', hD.wire⟩, ?_⟩, ⟨hD.row.1, hD.row.2.imp id fun ⟨g, cap, cur, a1, a2, a3⟩ => ⟨g, cap, cur, a1, ?_, a3⟩⟩, fun e he => (hD.frames e he).1, ?_⟩
  · have hF2 : ∀ k, F1 k → Nil k ∨ w.heap.size ≤ k := fun k hk => .inr ((hF1 k hk).elim (fun h => (hF.own k h.1).1) fun h => Nat.le_trans h1.size h)
    exact (h1.trans hd.only fun k hk => .inr (hF.own k hk.1).1).trans hD.only hF2
  · intro k t cs hb ht
    have hf : ¬ Tight F W k := tight_far hb ht
    exact hD.only.blk (hd.only.blk hb hf) fun h => (hF1 k h).elim hf fun h => by have := hb.lt; omega
  · have := hd.only.size
    have := h1.size
    omega
/-- A row of another type is written. -/
theorem Wr.off {S : Nat → Prop} (h : Wr w b s W) (ho : Only S W W') (hS : ∀ k, S k → w.heap.size ≤ k ∧ ∀ t cs, Blk W k t cs → ¬ WireT t) : Wr w b s W' := by
  obtain ⟨⟨F, hF⟩, h1⟩ := h
  exact ⟨⟨_, hF.tight.only ho fun k hk hs => by obtain ⟨_, t, cs, hb, ht⟩ := hk; exact (hS k hs).2 t cs hb ht⟩, h1.trans ho fun k hk => .inr (hS k hk).1⟩
/-! ## Rows of numbers -/
def IC (l : List Int) : List Value := l.map fun x => .int .i64 x
def RowI (B : Nat) (W : World) (v : Value) (l : List Int) : Prop := W.ownsRow B 3 1 v l.length (IC l)
theorem intT : ¬ WireT 3 := by unfold WireT; decide
theorem rowT : ¬ WireT 39 := by unfold WireT; decide
theorem own_keeps {t : TypeId} {n : Nat} {v : Value} {xs : List Value} (h : W.ownsRow B t 1 v n xs) (hk : Keeps W W') (ht : ¬ WireT t) : W'.ownsRow B t 1 v n xs := by
  refine ⟨h.1, h.2.imp id fun ⟨g, cap, cur, e1, e2, e3, e4⟩ => ⟨g, cap, cur, e1, e2, ?_, e4⟩⟩
  have := hk g t cur.toList (by unfold Blk; simpa using e3) ht
  unfold Blk at this
  simpa using this
theorem RowI.keeps {v : Value} {l : List Int} (h : RowI B W v l) (hk : Keeps W W') : RowI B W' v l := own_keeps h hk intT
theorem RowI.nil {v : Value} {l : List Int} (h : RowI B W v l) (ho : Only Nil W W') : RowI B W' v l := own_only h ho fun _ _ => id
theorem RowI.at' {v : Value} {l : List Int} (h : RowI B W v l) (h0 : 0 < l.length) : ∃ g cap, v = .slice (some ⟨g, 0, none⟩) l.length cap ∧ B ≤ g ∧ g < W.heap.size ∧ (∀ i, W.frozen? ⟨g, i, none⟩ = false) ∧ ∀ j, j < l.length → W.cell? ⟨g, j, none⟩ = some (.int .i64 (l.getD j 0)) := by
  obtain ⟨g, cap, rfl, _, hB, hl, hc⟩ := own_form h h0
  obtain ⟨cs, hb⟩ := blk_of_own h (k := g) rfl
  refine ⟨g, cap, rfl, hB, hl, hb.free, fun j hj => ?_⟩
  rw [hc j hj]
  simp [IC, List.getD, hj]
theorem RowI.slice {v : Value} {l : List Int} (h : RowI B W v l) : ∃ A cap, v = .slice A l.length cap := by
  rcases h.2 with ⟨e, h0⟩ | ⟨g, cap, cur, e, _⟩
  · exact ⟨none, 0, by rw [e, h0]⟩
  · exact ⟨_, _, e⟩
theorem RowI.set {g cap n : Nat} {l : List Int} (h : RowI B W (.slice (some ⟨g, 0, none⟩) n cap) l) {j : Nat} (_hj : j < l.length) (x : Int) : RowI B (W.setCell ⟨g, j, none⟩ (.int .i64 x)) (.slice (some ⟨g, 0, none⟩) n cap) (l.set j x) := by
  unfold RowI at h ⊢
  rw [List.length_set]
  have e : IC (l.set j x) = (IC l).set j (.int .i64 x) := by unfold IC; rw [List.map_set]
  rw [e]
  refine ⟨by rw [List.length_set]; exact h.1, ?_⟩
  rcases h.2 with ⟨h1, _⟩ | ⟨k, c, cur, hv, hB, hg, hc, hm, hs, ht⟩
  · cases h1
  · injection hv with e1 e2 e3
    injection e1 with e1
    injection e1 with e1
    subst e1 e2 e3
    have hb : Blk W g 3 cur.toList := by unfold Blk; simpa using hg
    have hb2 := hb.set j (.int .i64 x)
    refine .inr ⟨g, cap, (cur.toList.set j (.int .i64 x)).toArray, rfl, hB, hb2, hc, hm, by simpa using hs, ?_⟩
    rw [List.take_set, ht]
theorem RowI.grew {v : Value} {l : List Int} {x : Int} {g cap : Nat} (hg : Grew W W' B 3 v l.length 1 (IC l) [.int .i64 x] g cap) : RowI B W' (.slice (some ⟨g, 0, none⟩) (l.length + 1) cap) (l ++ [x]) := by
  have := hg.own
  unfold RowI
  rw [List.length_append]
  simpa [IC] using this
end
theorem info_int : (Try.prog.info? 3).map (fun i => (i.zero, i.size, i.bytes)) = some (some (.int .i64 0), 1, 8) := by kernel_rfl
/-- Beside a wire: two rows. -/
structure Two (w : World) (b : Nat) (s : WS) (vf vc : Value) (fr cm : List Int) (W : World) : Prop where
  wr : Wr w b s W
  fr : RowI w.heap.size W vf fr
  cm : RowI w.heap.size W vc cm
  ne : ∀ k, vf.ownBlock = some k → vc.ownBlock ≠ some k
section
variable {w W W' W1 : World} {b : Nat} {s s' : WS} {vf vc : Value} {fr cm : List Int}
theorem Two.nil (h : Two w b s vf vc fr cm W) (ho : Only Nil W W') : Two w b s vf vc fr cm W' := ⟨h.wr.more ho, h.fr.nil ho, h.cm.nil ho, h.ne⟩
theorem Two.did (h : Two w b s vf vc fr cm W) (hw : Wr w b s' W') (hk : Keeps W W') : Two w b s' vf vc fr cm W' := ⟨hw, h.fr.keeps hk, h.cm.keeps hk, h.ne⟩
theorem Two.lt (h : Two w b s vf vc fr cm W) : w.heap.size ≤ W.heap.size := h.wr.only.size
theorem row_off {v : Value} {l : List Int} (h : RowI w.heap.size W v l) : ∀ k, v.ownBlock = some k → w.heap.size ≤ k ∧ ∀ t cs, Blk W k t cs → ¬ WireT t := fun k hk => by
  obtain ⟨cs, hb⟩ := blk_of_own h hk
  exact ⟨(own_block h k hk).1, fun t cs' hb' => by rw [blk_type hb' hb]; exact intT⟩
theorem Two.grewF {x : Int} {g cap : Nat} (h : Two w b s vf vc fr cm W) (hg : Grew W W' w.heap.size 3 vf fr.length 1 (IC fr) [.int .i64 x] g cap) : Two w b s (.slice (some ⟨g, 0, none⟩) (fr.length + 1) cap) vc (fr ++ [x]) cm W' := by
  have ho : Only (fun k => vf.ownBlock = some k) W W' := Only.of_grown hg.grown fun k hk => .inl hk
  refine ⟨h.wr.off ho (row_off h.fr), RowI.grew hg, own_only h.cm ho fun k hk e => h.ne k e hk, fun k hk e => ?_⟩
  obtain rfl : g = k := Option.some.inj hk
  rcases hg.at' with h1 | h1
  · exact h.ne g h1 e
  · have := (own_block h.cm g e).2
    omega
theorem Two.grewC {x : Int} {g cap : Nat} (h : Two w b s vf vc fr cm W) (hg : Grew W W' w.heap.size 3 vc cm.length 1 (IC cm) [.int .i64 x] g cap) : Two w b s vf (.slice (some ⟨g, 0, none⟩) (cm.length + 1) cap) fr (cm ++ [x]) W' := by
  have ho : Only (fun k => vc.ownBlock = some k) W W' := Only.of_grown hg.grown fun k hk => .inl hk
  refine ⟨h.wr.off ho (row_off h.cm), own_only h.fr ho fun k hk e => h.ne k hk e, RowI.grew hg, fun k hk e => ?_⟩
  obtain rfl : g = k := Option.some.inj e
  rcases hg.at' with h1 | h1
  · exact h.ne g hk h1
  · have := (own_block h.fr g hk).2
    omega
theorem Two.setC {g n cap : Nat} (h : Two w b s vf (.slice (some ⟨g, 0, none⟩) n cap) fr cm W) {j : Nat} (hj : j < cm.length) (x : Int) : Two w b s vf (.slice (some ⟨g, 0, none⟩) n cap) fr (cm.set j x) (W.setCell ⟨g, j, none⟩ (.int .i64 x)) := by
  have ho : Only (One g) W (W.setCell ⟨g, j, none⟩ (.int .i64 x)) := (Only.refl _ _).setCell (p := ⟨g, j, none⟩) (.inl (One.self g)) _
  refine ⟨h.wr.off ho fun k hk => by rw [show k = g from hk]; exact row_off h.cm g rfl, own_only h.fr ho fun k hk e => h.ne k hk (by rw [show k = g from e]; rfl), h.cm.set hj x, h.ne⟩
/-- What came out, beside them. -/
structure Outs (w : World) (vl : Value) (outs : List Wy) (W : World) : Prop where
  row : W.ownsRow w.heap.size 39 1 vl outs.length (outs.map Wy.d)
  frames : ∀ e ∈ outs, OwnB w.heap.size W e.d e.bs
theorem Outs.nil {vl : Value} {outs : List Wy} (h : Outs w vl outs W) (ho : Only Nil W W') : Outs w vl outs W' := ⟨own_only h.row ho fun _ _ => id, fun e he => own_only (h.frames e he) ho fun _ _ => id⟩
theorem Outs.setC {vl : Value} {outs : List Wy} {g n cap : Nat} (h : Outs w vl outs W) (hr : RowI w.heap.size W (.slice (some ⟨g, 0, none⟩) n cap) cm) (j : Nat) (x : Value) : Outs w vl outs (W.setCell ⟨g, j, none⟩ x) := by
  have ho : Only (One g) W (W.setCell ⟨g, j, none⟩ x) := (Only.refl _ _).setCell (p := ⟨g, j, none⟩) (.inl (One.self g)) _
  obtain ⟨cs, hb⟩ := blk_of_own hr (k := g) rfl
  exact ⟨own_only h.row ho fun k hk e => ownN_far h.row hb (by decide) (by rw [hk, show k = g from e]), fun e he => own_only (h.frames e he) ho fun k hk e' => ownN_far (h.frames e he) hb (by decide) (by rw [hk, show k = g from e'])⟩
theorem Outs.at' {vl : Value} {outs : List Wy} (h : Outs w vl outs W) {n : Nat} (hn : n < outs.length) : ∃ g cap, vl = .slice (some ⟨g, 0, none⟩) outs.length cap ∧ W.cell? ⟨g, n, none⟩ = some (outs.getD n wy0).d ∧ ((outs.getD n wy0).bs.length = 2 → ∃ g', (outs.getD n wy0).a = some ⟨g', 0, none⟩ ∧ W.cell? ⟨g', 0, none⟩ = some (.int .u8 (by8 ((outs.getD n wy0).bs.getD 0 0))) ∧ W.cell? ⟨g', 1, none⟩ = some (.int .u8 (by8 ((outs.getD n wy0).bs.getD 1 0)))) := by
  obtain ⟨g, cap, rfl, _, _, _, hc⟩ := own_form h.row (by omega)
  have e1 : (outs.map Wy.d).getD n undef = (outs.getD n wy0).d := by simp [List.getD, hn]
  refine ⟨g, cap, rfl, by rw [hc n hn, e1], fun h2 => ?_⟩
  have hm : outs.getD n wy0 ∈ outs := by simp [List.getD, hn]
  have hO := h.frames _ hm
  generalize outs.getD n wy0 = e at *
  obtain ⟨g', cap', hv, _, _, _, hc'⟩ := own_form hO (by omega)
  have ha : e.a = some ⟨g', 0, none⟩ := by
    unfold Wy.d at hv
    injection hv
  refine ⟨g', ha, ?_, ?_⟩
  · have := hc' 0 (by omega)
    rw [this]
    have := BC_get e.bs 0 (by omega)
    simp only [List.getD]
    rw [this]
    simp [List.getD]
  · have := hc' 1 (by omega)
    rw [this]
    have := BC_get e.bs 1 (by omega)
    simp only [List.getD]
    rw [this]
    simp [List.getD]
end
end Go.Proofs.Ytkkjnembjlgiaaa
