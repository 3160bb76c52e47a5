/-
  WirePlays: a call at both (step): Due.
-/
import Derived.Test.YtkkjnembjlgiaaaVl
namespace Go.Proofs.Ytkkjnembjlgiaaa
set_option maxRecDepth 100000
open Go.RowKit

theorem DueQ.sub {now : Int} {m m' os : List Wy} (hq : DueQ now m m' os) : ∀ e ∈ m', e ∈ m := by
  induction hq with
  | stop _ => exact fun _ h => h
  | step _ _ _ ih => exact fun e he => List.mem_of_mem_eraseIdx (ih e he)
open Classical in
/-- New colours: what came out is kept. -/
noncomputable def paintD (n : Nat) (c : Nat → Nat) (P Q R : Nat → Prop) (i j : Nat) : Nat → Nat := fun k => if k < n then (if c k = i ∧ ¬ P k then 5 else c k) else if P k then i else if Q k then j else if R k then 7 else 5
section
variable {B : Nat} {W W' W1 W2 W3 W4 : World} {c c' : Nat → Nat} {F G T : Nat → Prop} {i j w x kb bk n : Nat} {s r s' r' : WS} {ks ks' : List Ke}
theorem ownBase {t : TypeId} {v : Value} {m : Nat} {xs : List Value} {B' : Nat} (h : W.ownsRow B' t 1 v m xs) (hB : B ≤ B') : W.ownsRow B t 1 v m xs :=
  ⟨h.1, h.2.imp id fun ⟨g, cap, cur, e1, e2, e3⟩ => ⟨g, cap, cur, e1, Nat.le_trans hB e2, e3⟩⟩
/-- All that a Due at both leaves, ahead of the taking. -/
structure DueBoth (B : Nat) (W : World) (c : Nat → Nat) (i j w x kb bk n : Nat) (ks : List Ke) (vl vl2 : Value) (W4 : World) (c' : Nat → Nat) (s' r' : WS) (o1 o2 : List Wy) : Prop where
  half : Half B W4 c' i j w x s' r' n
  kept : Kept B W4 c' kb bk ks
  new : ∀ k, W4.heap.size ≤ k → c' k = 5
  row : W4.ownsRow B 39 1 vl o1.length (o1.map Wy.d)
  row2 : W4.ownsRow B 39 1 vl2 o2.length (o2.map Wy.d)
  frames : ∀ y ∈ o1, OwnB B W4 y.d y.bs
  frames2 : ∀ y ∈ o2, OwnB B W4 y.d y.bs
  same : o1.map Wy.bs = o2.map Wy.bs
  farR : ∀ e' ∈ ks, ∀ k, e'.l.ownBlock = some k → vl.ownBlock ≠ some k
  far : o1.Pairwise Far
  far2 : ∀ e' ∈ ks, ∀ y ∈ e'.es, ∀ z ∈ o1, Far y z
  foot : (∀ k, vl.ownBlock = some k → c' k = 5) ∧ (∀ y ∈ o1, ∀ k, y.d.ownBlock = some k → c' k = 5) ∧ (∀ k, vl2.ownBlock = some k → c' k = 7) ∧ ∀ y ∈ o2, ∀ k, y.d.ownBlock = some k → c' k = 7
  few : o1.length ≤ 4096 ∧ ∀ y ∈ o1, y.bs.length ≤ 100000000000
  colour : ∀ k, k < W.heap.size → c k ≠ i → c' k = c k
  mine : ∀ k, k < W.heap.size → c' k = 5 → c k = i ∨ c k = 5
  only : Only (Wr3 c i j) W W4
theorem Half.due (H : Half B W c i j w x s r n) (K : Kept B W c kb bk ks) (hij : IJ i j) (hF : IsWire B W F w s) (hFc : ∀ k, F k → c k = i) (hG : IsVire B W G x r) (hGc : ∀ k, G k → c k = j)
    {t : Int} {vl vl2 : Value} (h1 : Only Nil W W1) (hd : DueR B W1 F w s t vl W2) (hv : RDue B W2 G x r t vl2 W3) (h4 : Only Nil W3 W4) : ∃ c' s' r' o1 o2, DueBoth B W c i j w x kb bk n ks vl vl2 W4 c' s' r' o1 o2 := by
  obtain ⟨w1, F1, F', hmv, hF1, hD⟩ := hd
  obtain ⟨m, o2, hq, hdv, hr2, hf2⟩ := hv
  obtain ⟨G0, hx0, hG0⟩ := hdv.vire
  have hx := hx0.tight
  have hne := hij.ne
  have h05 := hij.i5
  have h06 := hij.j5
  have z1 := h1.size
  have z2 := hmv.only.size
  have z3 := hD.only.size
  have z4 := hdv.only.size
  have z5 := h4.size
  have hB := hF.base
  have hO2 : Only F W1 W2 := hmv.only.trans hD.only hF1
  have hrel := H.rel.due t hq
  have hsane := H.sane.due t
  have lF : ∀ k, F k → k < W.heap.size ∧ c k = i := fun k hk => ⟨(hF.own k hk).2, hFc k hk⟩
  have lG : ∀ k, G k → k < W.heap.size ∧ c k = j := fun k hk => ⟨(hG.own k hk).2, hGc k hk⟩
  have lR : ∀ k, Frs r.ways k → k < W.heap.size ∧ c k = 7 := fun k hk => ⟨(hG.frs hk).1.2, H.frs k hk⟩
  have lF1 : ∀ k, F1 k → (F k ∧ k < W.heap.size ∧ c k = i) ∨ (W.heap.size ≤ k ∧ k < w1.heap.size) := fun k hk => (hF1 k hk).imp (fun h => ⟨h, lF k h⟩) fun h => ⟨by omega, hD.low k hk⟩
  have lG' : ∀ k, TightV G0 W3 k → (G k ∧ k < W.heap.size ∧ c k = j) ∨ W2.heap.size ≤ k := fun k hk => (hG0 k hk.1).imp (fun h => ⟨h, lG k h⟩) id
  have lv : ∀ k, vl.ownBlock = some k → w1.heap.size ≤ k ∧ k < W2.heap.size := own_block hD.row
  have lv2 : ∀ k, vl2.ownBlock = some k → W2.heap.size ≤ k ∧ k < W3.heap.size := own_block hr2
  have hGF : ∀ k, G k → ¬ F k := fun k h1 h2 => by have := (lG k h1).2; have := (lF k h2).2; omega
  have hGF1 : ∀ k, F1 k → ¬ G k := fun k h1 h2 => by have := lG k h2; rcases lF1 k h1 with h | h <;> omega
  have hlG : ∀ k, W.heap.size ≤ k → ¬ G k := fun k h1 h2 => by have := (lG k h2).1; omega
  have cF : ∀ k, F' k → paintD W.heap.size c F' (TightV G0 W3) (fun k => vl2.ownBlock = some k) i j k = i := fun k hk => by
    unfold paintD
    rcases lF1 k (hD.sub k hk) with h | h
    · rw [if_pos h.2.1, if_neg (fun e => e.2 hk)]
      exact h.2.2
    · rw [if_neg (by omega), if_pos hk]
  have cG : ∀ k, TightV G0 W3 k → paintD W.heap.size c F' (TightV G0 W3) (fun k => vl2.ownBlock = some k) i j k = j := fun k hk => by
    unfold paintD
    rcases lG' k hk with h | h
    · rw [if_pos h.2.1, if_neg (fun e => by have := e.1; omega)]
      exact h.2.2
    · rw [if_neg (by omega), if_neg (fun e => by rcases lF1 k (hD.sub k e) with h' | h' <;> omega), if_pos hk]
  have c7 : ∀ k, k < W.heap.size → c k = 7 → paintD W.heap.size c F' (TightV G0 W3) (fun k => vl2.ownBlock = some k) i j k = 7 := fun k hk e => by
    unfold paintD
    rw [if_pos hk, if_neg (fun e' => by have := e'.1; omega)]
    exact e
  have c5 : ∀ k, W.heap.size ≤ k → ¬ F' k → ¬ TightV G0 W3 k → vl2.ownBlock ≠ some k → paintD W.heap.size c F' (TightV G0 W3) (fun k => vl2.ownBlock = some k) i j k = 5 := fun k hk e1 e2 e3 => by
    unfold paintD
    rw [if_neg (by omega), if_neg e1, if_neg e2, if_neg e3]
  have hsub := hq.sub
  have hR' : ∀ k, Frs m k → Frs r.ways k := fun k ⟨e, he, hk⟩ => ⟨e, hsub e he, hk⟩
  have hrow : W4.ownsRow B 39 1 vl (dueO s t).length ((dueO s t).map Wy.d) :=
    own_only (own_only (ownBase hD.row (by omega)) hdv.only fun k hk e => by have := lv k hk; exact hlG k (by omega) e) h4 fun _ _ e => e
  have hfr : ∀ y ∈ dueO s t, OwnB B W4 y.d y.bs := fun y hy => own_only (own_only (hD.frames y hy).1 hdv.only fun k hk e => hGF1 k ((hD.frames y hy).2 k hk).1 e) h4 fun _ _ e => e
  have hO : Only (fun k => F k ∨ G k) W W4 := (((h1.mono (T := fun k => F k ∨ G k) fun _ _ e => e.elim).then (hO2.mono fun _ _ e => .inl e)).then (hdv.only.mono fun _ _ e => .inr e)).then (h4.mono fun _ _ e => e.elim)
  refine ⟨_, dueS s t, { moveP r t with ways := m }, dueO s t, o2, ⟨⟨⟨F', ?_, cF⟩, ⟨_, hx.nil h4, cG⟩, fun k hk => ?_, hrel.1, hsane.1⟩, ?_, fun k hk => ?_, hrow, own_only (ownBase hr2 (by omega)) h4 fun _ _ e => e, hfr, fun y hy => own_only (hf2 y hy).1 h4 fun _ _ e => e, hrel.2, fun e' he' k hk hk' => ?_, hD.far, fun e' he' y hy z hz k hk hk' => ?_, ⟨fun k hk => ?_, fun y hy k hk => ?_, fun k hk => ?_, fun y hy k hk => ?_⟩, hsane.2, fun k hk hc => ?_, fun k hk hc => ?_, ?_⟩⟩
  · exact (hD.wire.only hdv.only fun k hk => hGF1 k (hD.sub k hk)).only h4 fun _ _ e => e
  · have := lR k (hR' k hk)
    exact c7 k this.1 this.2
  · refine K.keep hO (fun k hk e => ?_) fun k hk e => ?_
    · rcases e with e | e
      · have := (lF k e).2; omega
      · have := (lG k e).2; omega
    · unfold paintD
      rw [if_pos hk, if_neg (fun e' => by have := e'.1; omega)]
  · refine c5 k (by omega) (fun e => ?_) (fun e => ?_) fun e => ?_
    · rcases lF1 k (hD.sub k e) with h | h <;> omega
    · have := (hx.own k e).2; omega
    · have := (lv2 k e).2; omega
  · obtain ⟨⟨va, vb, hA⟩, _⟩ := K
    have := (own_block (hA.rows e' he') k hk).2
    have := (lv k hk').1
    omega
  · obtain ⟨⟨va, vb, hA⟩, _⟩ := K
    have a1 := (own_block (hA.frames e' he' y hy) k hk).2
    have a2 := (hA.footE e' he').2.1 y hy k hk
    rcases lF1 k ((hD.frames z hz).2 k hk').1 with h | h <;> omega
  · have h5 := lv k hk
    refine c5 k (by omega) (fun e => ?_) (fun e => ?_) fun e => ?_
    · rcases lF1 k (hD.sub k e) with h | h <;> omega
    · rcases lG' k e with h | h <;> omega
    · have := (lv2 k e).1; omega
  · obtain ⟨a1, a2⟩ := (hD.frames y hy).2 k hk
    rcases lF1 k a1 with h | h
    · unfold paintD
      rw [if_pos h.2.1, if_pos ⟨h.2.2, a2⟩]
    · refine c5 k h.1 a2 (fun e => ?_) fun e => ?_
      · rcases lG' k e with h' | h' <;> omega
      · have := (lv2 k e).1; omega
  · have h5 := lv2 k hk
    unfold paintD
    rw [if_neg (by omega), if_neg (fun e => by rcases lF1 k (hD.sub k e) with h' | h' <;> omega), if_neg (fun e => ?_), if_pos hk]
    obtain ⟨cs, hb⟩ := blk_of_own hr2 hk
    exact tightV_far hb (by unfold VireT; decide) e
  · have := lR k ⟨y, (hf2 y hy).2, hk⟩
    exact c7 k this.1 this.2
  · unfold paintD
    rw [if_pos hk, if_neg (fun e => hc e.1)]
  · unfold paintD at hc
    rw [if_pos hk] at hc
    by_cases hci : c k = i
    · exact .inl hci
    · rw [if_neg (fun e => hci e.1)] at hc
      exact .inr hc
  · exact hO.mono fun k _ e => e.elim (fun e => .inl (hFc k e)) fun e => .inr (.inl (hGc k e))
end
end Go.Proofs.Ytkkjnembjlgiaaa
