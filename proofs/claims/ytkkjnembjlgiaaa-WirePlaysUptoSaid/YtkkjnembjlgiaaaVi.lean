/-
  WirePlays: a wire and the document's (Half), by colours; what a step leaves (AfterAt).
-/
import Derived.Test.YtkkjnembjlgiaaaVh
namespace Go.Proofs.Ytkkjnembjlgiaaa
set_option maxRecDepth 100000
open Go.RowKit

structure Sane (s : WS) (n : Nat) : Prop where
  fit : Fit s
  few : s.ways.length ≤ 4096
  short : ∀ e ∈ s.ways, e.bs.length ≤ 100000000000
  laid : s.laid ≤ 2 * n
  lost : s.lost ≤ 2 * n
  fates : s.fates.length ≤ 1048576 * n
section
variable {s s' r : WS} {n : Nat} {bs : List UInt8} {t : Int}
theorem Sane.mono (h : Sane s n) : Sane s (n + 1) := ⟨h.fit, h.few, h.short, by have := h.laid; omega, by have := h.lost; omega, by have := h.fates; omega⟩
theorem Sane.init : Sane ws0 0 := ⟨⟨by decide, by decide, by decide⟩, by decide, fun e h => (by cases h), by decide, by decide, by decide⟩
theorem layR_sane (h : layR s t bs s') (hs : s.ways.length ≤ 4096) (hb : ∀ e ∈ s.ways, e.bs.length ≤ 100000000000) (hl : bs.length ≤ 100000000000) : s'.ways.length ≤ 4096 ∧ (∀ e ∈ s'.ways, e.bs.length ≤ 100000000000) ∧ s'.laid ≤ s.laid + 1 ∧ s'.lost ≤ s.lost + 1 ∧ s'.fates = s.fates ∧ s'.now = s.now ∧ s.laid ≤ s'.laid ∧ s.lost ≤ s'.lost := by
  unfold layR at h
  split at h
  · subst h
    exact ⟨hs, hb, by show s.laid ≤ _; omega, Int.le_refl _, rfl, rfl, Int.le_refl _, by show s.lost ≤ s.lost + 1; omega⟩
  · obtain ⟨a, c, rfl⟩ := h
    refine ⟨?_, fun e he => ?_, Int.le_refl _, by show s.lost ≤ _; omega, rfl, rfl, by show s.laid ≤ s.laid + 1; omega, Int.le_refl _⟩
    · show (pushP _ _).length ≤ 4096
      rw [pushP_length]
      omega
    · rcases List.mem_cons.1 ((pushP_perm _ _).mem_iff.1 he) with rfl | he
      · exact hl
      · exact hb e he
theorem Sane.put (h : Sane s n) (hn : n ≤ 100000000) (hp : putR s t bs s') (hl : bs.length ≤ 100000000000) : Sane s' (n + 1) := by
  have hF := h.fit.sent t
  have h1 := h.laid
  have h2 := h.lost
  have h3 := h.fit.laid
  have h4 := h.fit.lost
  have h5 := h.fates
  have ht : s.fates.tail.length ≤ s.fates.length := by simp
  unfold putR at hp
  split at hp
  · subst hp
    exact ⟨⟨hF.now, h3, by show 0 ≤ s.lost + 1 ∧ s.lost + 1 ≤ _; omega⟩, h.few, h.short, by show s.laid ≤ _; omega, by show s.lost + 1 ≤ _; omega, by show s.fates.tail.length ≤ _; omega⟩
  · obtain ⟨s3, e3, e4⟩ := hp
    obtain ⟨a1, a2, a3, a4, a5, a6, a7, a8⟩ := layR_sane e3 h.few h.short hl
    have b3 : s3.laid ≤ s.laid + 1 := a3
    have b4 : s3.lost ≤ s.lost + 1 := a4
    have b7 : s.laid ≤ s3.laid := a7
    have b8 : s.lost ≤ s3.lost := a8
    have b5 : s3.fates.length = s.fates.tail.length := congrArg List.length a5
    have hn3 : 0 ≤ s3.now ∧ s3.now ≤ 1125899906842624 := by rw [a6]; exact hF.now
    split at e4
    · obtain ⟨c1, c2, c3, c4, c5, c6, c7, c8⟩ := layR_sane e4 a1 a2 hl
      have d5 : s'.fates.length = s3.fates.length := congrArg List.length c5
      exact ⟨⟨by rw [c6]; exact hn3, by omega, by omega⟩, c1, c2, by omega, by omega, by omega⟩
    · subst e4
      exact ⟨⟨hn3, by omega, by omega⟩, a1, a2, by omega, by omega, by omega⟩
theorem Sane.due (h : Sane s n) (t : Int) : Sane (dueS s t) n ∧ (dueO s t).length ≤ 4096 ∧ ∀ e ∈ dueO s t, e.bs.length ≤ 100000000000 := by
  obtain ⟨hp, _⟩ := dueP_spec (moveP s t).now s.ways.length s.ways rfl
  have hl := hp.length_eq
  rw [List.length_append] at hl
  have hm : ∀ e, e ∈ (dueP s.ways (moveP s t).now).2 ∨ e ∈ (dueP s.ways (moveP s t).now).1 → e ∈ s.ways := fun e he => hp.mem_iff.2 (List.mem_append.2 he)
  have h0 := h.few
  refine ⟨⟨⟨(h.fit.sent t).now, h.fit.laid, h.fit.lost⟩, ?_, fun e he => h.short e (hm e (.inr he)), h.laid, h.lost, h.fates⟩, ?_, fun e he => h.short e (hm e (.inl he))⟩
  · show (dueP s.ways (moveP s t).now).1.length ≤ 4096
    omega
  · show (dueP s.ways (moveP s t).now).2.length ≤ 4096
    omega
theorem Sane.fated (h : Sane s n) {l : List Ft} (hl : l.length ≤ 1048576) : Sane { s with fates := s.fates ++ l } (n + 1) :=
  ⟨⟨h.fit.now, h.fit.laid, h.fit.lost⟩, h.few, h.short, by have := h.laid; show s.laid ≤ _; omega, by have := h.lost; show s.lost ≤ _; omega, by have := h.fates; show (s.fates ++ l).length ≤ _; rw [List.length_append]; omega⟩
theorem Rel.fit (h : Rel s r) (hf : Fit s) : Fit r := ⟨by rw [h.now]; exact hf.now, by rw [h.laid]; exact hf.laid, by rw [h.lost]; exact hf.lost⟩
end
/-- A wire and the document's: the same state. -/
structure Half (B : Nat) (W : World) (c : Nat → Nat) (i j w x : Nat) (s r : WS) (n : Nat) : Prop where
  wire : ∃ F, IsWire B W F w s ∧ ∀ k, F k → c k = i
  vire : ∃ F, IsVire B W F x r ∧ ∀ k, F k → c k = j
  frs : ∀ k, Frs r.ways k → c k = 7
  rel : Rel s r
  sane : Sane s n
def KsOk (ks : List Ke) : Prop := ∀ e ∈ ks, e.es.length ≤ 4096 ∧ ∀ y ∈ e.es, y.bs.length ≤ 100000000000
structure IJ (i j : Nat) : Prop where
  ne : i ≠ j
  i5 : 0 < i ∧ i < 5
  j5 : 0 < j ∧ j < 5
def Wr3 (c : Nat → Nat) (i j : Nat) : Nat → Prop := fun k => c k = i ∨ c k = j ∨ c k = 5
structure AfterAt (B : Nat) (W : World) (c : Nat → Nat) (i j w x kb bk n : Nat) (ks : List Ke) (W' : World) (c' : Nat → Nat) (s' r' : WS) (ks' : List Ke) : Prop where
  half : Half B W' c' i j w x s' r' (n + 1)
  kept : Kept B W' c' kb bk ks'
  ok : KsOk ks'
  len : ks'.length ≤ ks.length + 1
  colour : ∀ k, k < W.heap.size → c k ≠ i → c' k = c k
  only : Only (Wr3 c i j) W W'
def After (B : Nat) (W : World) (c : Nat → Nat) (i j w x kb bk n : Nat) (ks : List Ke) (W' : World) : Prop := ∃ c' s' r' ks', AfterAt B W c i j w x kb bk n ks W' c' s' r' ks'
section
variable {B : Nat} {W W' W1 W2 : World} {c c' : Nat → Nat} {S : Nat → Prop} {i j i2 j2 w x w2 x2 kb bk n n2 : Nat} {s r s' r' : WS} {ks ks' : List Ke}
theorem Half.keep (h : Half B W c i j w x s r n) (ho : Only S W W') (hS : ∀ k, k < W.heap.size → S k → c k ≠ i ∧ c k ≠ j ∧ c k ≠ 7) (hc : ∀ k, k < W.heap.size → c k = i ∨ c k = j ∨ c k = 7 → c' k = c k) : Half B W' c' i j w x s r n := by
  obtain ⟨⟨F, hF, h1⟩, ⟨G, hG, h2⟩, h3, h4, h5⟩ := h
  exact ⟨⟨F, hF.only ho fun k hk e => (hS k (hF.own k hk).2 e).1 (h1 k hk), fun k hk => (hc k (hF.own k hk).2 (.inl (h1 k hk))).trans (h1 k hk)⟩,
    ⟨G, hG.only ho (fun k hk e => (hS k (hG.own k hk).2 e).2.1 (h2 k hk)) fun k hk e => (hS k (hG.frs hk).1.2 e).2.2 (h3 k hk), fun k hk => (hc k (hG.own k hk).2 (.inr (.inl (h2 k hk)))).trans (h2 k hk)⟩,
    fun k hk => (hc k (hG.frs hk).1.2 (.inr (.inr (h3 k hk)))).trans (h3 k hk), h4, h5⟩
theorem Half.only (h : Half B W c i j w x s r n) (ho : Only S W W') (hS : ∀ k, S k → c k ≠ i ∧ c k ≠ j ∧ c k ≠ 7) : Half B W' c i j w x s r n := h.keep ho (fun k _ e => hS k e) fun _ _ _ => rfl
theorem Half.nil (h : Half B W c i j w x s r n) (ho : Only Nil W W') : Half B W' c i j w x s r n := h.only ho fun _ e => e.elim
theorem Kept.keep (h : Kept B W c kb bk ks) (ho : Only S W W') (hS : ∀ k, k < W.heap.size → S k → c k ≠ 5 ∧ c k ≠ 6 ∧ c k ≠ 7) (hc : ∀ k, k < W.heap.size → c k = 5 ∨ c k = 6 ∨ c k = 7 → c' k = c k) : Kept B W' c' kb bk ks := by
  have h0 : Kept B W (fun k => if k < W.heap.size then c k else 0) kb bk ks := h.colour fun k hk _ => if_pos hk
  have h1 : Kept B W' (fun k => if k < W.heap.size then c k else 0) kb bk ks := h0.only (ho.mono (T := fun k => k < W.heap.size ∧ S k) fun k hk e => ⟨hk, e⟩) fun k hk e => by
    have h2 := hS k e.1 e.2
    simp only [if_pos e.1] at hk
    omega
  refine h1.colour fun k _ hk => ?_
  by_cases hl : k < W.heap.size
  · simp only [if_pos hl] at hk ⊢
    exact hc k hl hk
  · simp only [if_neg hl] at hk
    omega
theorem Half.mono (h : Half B W c i j w x s r n) : Half B W c i j w x s r (n + 1) := ⟨h.wire, h.vire, h.frs, h.rel, h.sane.mono⟩
theorem Half.base (h : Half B W c i j w x s r n) : B ≤ W.heap.size := by
  obtain ⟨⟨F, hF, h1⟩, _⟩ := h
  exact hF.base
/-- Another pair stays. -/
theorem AfterAt.other (h : AfterAt B W c i j w x kb bk n ks W' c' s' r' ks') (hij : IJ i j) {s2 r2 : WS} (h2 : Half B W c i2 j2 w2 x2 s2 r2 n2) (hd : i2 ≠ i ∧ i2 ≠ j ∧ j2 ≠ i ∧ j2 ≠ j ∧ i2 < 5 ∧ j2 < 5) : Half B W' c' i2 j2 w2 x2 s2 r2 n2 := by
  have h3 := hij.i5
  have h4 := hij.j5
  refine h2.keep h.only (fun k _ e => ?_) fun k hk e => h.colour k hk fun e' => by omega
  have e' : c k = i ∨ c k = j ∨ c k = 5 := e
  omega
/-- Nothing is changed. -/
theorem After.same (h : Half B W c i j w x s r n) (k : Kept B W c kb bk ks) (hk : KsOk ks) (ho : Only Nil W W') : After B W c i j w x kb bk n ks W' :=
  ⟨c, s, r, ks, (h.nil ho).mono, k.nil ho, hk, Nat.le_succ _, fun _ _ _ => rfl, ho.mono fun _ _ e => e.elim⟩
end
end Go.Proofs.Ytkkjnembjlgiaaa
