/-
  HoldPlays: a hold and the document's side by side (Pair), the book of what came out; what a call at both leaves.
-/
import Derived.Test.YthkongkbefpilaaDoorHw2
namespace Go.Proofs.YthkongkbefpilaaDoor
set_option maxRecDepth 100000
open Go.RowKit Sha

structure PairAt (B : Nat) (W : World) (FH FX : Nat → Prop) (h x : Nat) (s : HS) : Prop where
  hold : IsHold B W FH h s
  ref : IsRef B W FX x s
  far : ∀ k, FH k → ¬ FX k
/-- All that a step begins with. -/
structure Set0 (B : Nat) (a0 a1 : Addr) (W : World) (FH FX FK : Nat → Prop) (kb h x : Nat) (s : HS) (ls : List Ls) : Prop where
  pair : PairAt B W FH FX h x s
  book : IsBook B W FK kb ls
  far : ∀ k, FK k → ¬ (FH k ∨ FX k)
  errs : Errs B a0 a1 W
  len : ls.length ≤ 50000000000
/-- What a step leaves. -/
structure AfterAt (B : Nat) (W : World) (FH FX FK : Nat → Prop) (kb h x m : Nat) (ls : List Ls) (W' : World) (GH GX GK : Nat → Prop) (s' : HS) (ls' : List Ls) : Prop where
  pair : PairAt B W' GH GX h x s'
  book : IsBook B W' GK kb ls'
  far : ∀ k, GK k → ¬ (GH k ∨ GX k)
  new : ∀ k, GH k ∨ GX k ∨ GK k → (FH k ∨ FX k ∨ FK k) ∨ W.heap.size ≤ k
  only : Only (fun k => FH k ∨ FX k ∨ FK k) W W'
  len : ls'.length ≤ ls.length + m
  short : ∀ y ∈ ls', y ∈ ls ∨ y.2.length ≤ 16777216
def After (B : Nat) (W : World) (FH FX FK : Nat → Prop) (kb h x m : Nat) (ls : List Ls) (W' : World) : Prop := ∃ GH GX GK s' ls', AfterAt B W FH FX FK kb h x m ls W' GH GX GK s' ls'
section
variable {B : Nat} {a0 a1 : Addr} {W W' W1 W2 : World} {FH FX FK GH GX GK S : Nat → Prop} {kb h x : Nat} {s s' : HS} {ls : List Ls}
theorem PairAt.only (p : PairAt B W FH FX h x s) (ho : Only S W W') (hS : ∀ k, FH k ∨ FX k → ¬ S k) : PairAt B W' FH FX h x s :=
  ⟨p.hold.only ho fun k hk => hS k (.inl hk), p.ref.only ho fun k hk => hS k (.inr hk), p.far⟩
theorem PairAt.nil (p : PairAt B W FH FX h x s) (ho : Only Nil W W') : PairAt B W' FH FX h x s := p.only ho fun _ _ e => e
theorem PairAt.lt (p : PairAt B W FH FX h x s) {k : Nat} (hk : FH k ∨ FX k) : B ≤ k ∧ k < W.heap.size := hk.elim (p.hold.own k) (p.ref.own k)
/-- The hold is changed. -/
theorem PairAt.first (p : PairAt B W FH FX h x s) (hd : Did B W FH h s' W1) : IsHold B W1 (Wide FH W W1) h s' ∧ IsRef B W1 FX x s ∧ ∀ k, Wide FH W W1 k → ¬ FX k :=
  ⟨hd.hold, p.ref.only hd.only fun k hk e => p.far k e hk, fun k hk e => hk.elim (fun h => p.far k h e) fun h => by have := (p.ref.own k e).2; omega⟩
/-- Then the reference's. -/
theorem PairAt.second (hh : IsHold B W GH h s') (hf : ∀ k, GH k → ¬ FX k) (hd : DidR B W FX x s' W1) : PairAt B W1 GH (Wide FX W W1) h x s' :=
  ⟨hh.only hd.only hf, hd.ref, fun k hk e => e.elim (fun h => hf k hk h) fun h => by have := (hh.own k hk).2; omega⟩
theorem Set0.nil (S0 : Set0 B a0 a1 W FH FX FK kb h x s ls) (ho : Only Nil W W') : Set0 B a0 a1 W' FH FX FK kb h x s ls :=
  ⟨S0.pair.nil ho, S0.book.only ho fun _ _ e => e, S0.far, S0.errs.only ho fun _ e => e.elim, S0.len⟩
/-- Both are changed, the book is not. -/
theorem Set0.done (S0 : Set0 B a0 a1 W FH FX FK kb h x s ls) (p : PairAt B W' GH GX h x s') (hG : ∀ k, GH k ∨ GX k → (FH k ∨ FX k) ∨ W.heap.size ≤ k) (ho : Only (fun k => FH k ∨ FX k) W W') : After B W FH FX FK kb h x 1 ls W' :=
  ⟨GH, GX, FK, s', ls, p, S0.book.only ho S0.far, fun k hk e => (hG k e).elim (S0.far k hk) fun e => by have := (S0.book.own k hk).2; omega,
    fun k hk => hk.elim (fun h => (hG k (.inl h)).imp (fun h => h.imp id .inl) id) fun h => h.elim (fun h => (hG k (.inr h)).imp (fun h => h.imp id .inl) id) fun h => .inl (.inr (.inr h)),
    ho.mono fun _ _ e => e.imp id .inl, Nat.le_succ _, fun _ hy => .inl hy⟩
theorem Set0.same (S0 : Set0 B a0 a1 W FH FX FK kb h x s ls) (ho : Only Nil W W') : After B W FH FX FK kb h x 1 ls W' :=
  S0.done (S0.pair.nil ho) (fun _ h => .inl h) (ho.mono fun _ _ e => e.elim)
/-- A list came out, and the book took it. -/
theorem Set0.took (S0 : Set0 B a0 a1 W FH FX FK kb h x s ls) (h1 : Only Nil W W1) {v : Value} {bs : List UInt8} (hv : ∀ k, v.ownBlock = some k → W.heap.size ≤ k) (hl : bs.length ≤ 16777216) (h2 : Only FK W1 W2) (hG : IsBook B W2 GK kb (ls ++ [(v, bs)])) (hk : ∀ k, GK k → FK k ∨ v.ownBlock = some k ∨ W1.heap.size ≤ k) : After B W FH FX FK kb h x 1 ls W2 :=
  have hn : ∀ k, GK k → FK k ∨ W.heap.size ≤ k := fun k h => (hk k h).imp id fun h => h.elim (hv k) fun h => Nat.le_trans h1.size h
  ⟨FH, FX, GK, s, _, (S0.pair.nil h1).only h2 fun k hk e => S0.far k e hk, hG, fun k hk e => (hn k hk).elim (fun h => S0.far k h e) fun h => by have := (S0.pair.lt e).2; omega,
    fun k hk => hk.elim (fun h => .inl (.inl h)) fun h => h.elim (fun h => .inl (.inr (.inl h))) fun h => (hn k h).imp (fun h => .inr (.inr h)) id,
    (h1.mono (T := fun k => FH k ∨ FX k ∨ FK k) fun _ _ e => e.elim).then (h2.mono fun _ _ e => .inr (.inr e)), by simp, fun y hy => by
      rcases List.mem_append.1 hy with h | h
      · exact .inl h
      · rw [List.mem_singleton.1 h]
        exact .inr hl⟩
/-- The two of them, one behind the other. -/
theorem Set0.both (S0 : Set0 B a0 a1 W FH FX FK kb h x s ls) (h1 : Only Nil W W1) (hd : Did B W1 FH h s' W2) {W3 W4 : World} (h3 : Only Nil W2 W3) (hr : DidR B W3 FX x s' W4) {T : Nat → Prop} (hT : ∀ k, T k → W.heap.size ≤ k ∧ k < W1.heap.size) (h5 : Only T W4 W') : After B W FH FX FK kb h x 1 ls W' := by
  obtain ⟨a, _, c⟩ := (S0.pair.nil h1).first hd
  have p := PairAt.second (a.only h3 fun _ _ e => e) c hr
  have hlt : ∀ k, FH k ∨ FX k → k < W.heap.size := fun k hk => (S0.pair.lt hk).2
  have hs1 := h1.size
  have hs2 := hd.only.size
  have hs3 := h3.size
  refine S0.done (p.only h5 fun k hk e => ?_) (fun k hk => ?_) ?_
  · have e' := hT k e
    rcases hk with (hk | hk) | (hk | hk)
    · have := hlt k (.inl hk); omega
    · omega
    · have := hlt k (.inr hk); omega
    · omega
  · rcases hk with (hk | hk) | (hk | hk)
    · exact .inl (.inl hk)
    · exact .inr (by omega)
    · exact .inl (.inr hk)
    · exact .inr (by omega)
  · have o2 : Only (fun k => FH k ∨ FX k) W W2 := (h1.mono (T := fun k => FH k ∨ FX k) fun _ _ e => e.elim).then (hd.only.mono fun _ _ e => .inl e)
    have o4 : Only (fun k => FH k ∨ FX k) W W4 := (o2.then (h3.mono fun _ _ e => e.elim)).then (hr.only.mono fun _ _ e => .inr e)
    exact o4.trans h5 fun k e => .inr (hT k e).1
theorem AfterAt.set0 {m : Nat} (S0 : Set0 B a0 a1 W FH FX FK kb h x s ls) {ls' : List Ls} (A : AfterAt B W FH FX FK kb h x m ls W' GH GX GK s' ls') (hl : ls'.length ≤ 50000000000) : Set0 B a0 a1 W' GH GX GK kb h x s' ls' :=
  ⟨A.pair, A.book, A.far, S0.errs.only A.only fun k hk => hk.elim (fun h => (S0.pair.hold.own k h).1) fun h => h.elim (fun h => (S0.pair.ref.own k h).1) fun h => (S0.book.own k h).1, hl⟩
theorem AfterAt.nil (S0 : Set0 B a0 a1 W FH FX FK kb h x s ls) : AfterAt B W FH FX FK kb h x 0 ls W FH FX FK s ls :=
  ⟨S0.pair, S0.book, S0.far, fun _ h => .inl h, Only.refl _ _, Nat.le_refl _, fun _ h => .inl h⟩
theorem AfterAt.pre {m : Nat} {ls' : List Ls} (h1 : Only Nil W W1) (A : AfterAt B W1 FH FX FK kb h x m ls W' GH GX GK s' ls') : AfterAt B W FH FX FK kb h x m ls W' GH GX GK s' ls' :=
  ⟨A.pair, A.book, A.far, fun k hk => (A.new k hk).imp id fun e => Nat.le_trans h1.size e, (h1.mono (T := fun k => FH k ∨ FX k ∨ FK k) fun _ _ e => e.elim).then A.only, A.len, A.short⟩
theorem AfterAt.then {m n : Nat} {ls1 ls2 : List Ls} {s1 s2 : HS} {KH KX KK : Nat → Prop} (A : AfterAt B W FH FX FK kb h x m ls W1 GH GX GK s1 ls1) (A2 : AfterAt B W1 GH GX GK kb h x n ls1 W2 KH KX KK s2 ls2) : AfterAt B W FH FX FK kb h x (m + n) ls W2 KH KX KK s2 ls2 :=
  ⟨A2.pair, A2.book, A2.far, fun k hk => (A2.new k hk).elim (A.new k) fun e => .inr (Nat.le_trans A.only.size e), A.only.trans A2.only fun k hk => A.new k hk, by have := A.len; have := A2.len; omega,
    fun y hy => (A2.short y hy).elim (A.short y) .inr⟩
/-- The other pair stays. -/
theorem AfterAt.other {m : Nat} {ls' : List Ls} {g y : Nat} {t : HS} {KH KX : Nat → Prop} (A : AfterAt B W FH FX FK kb h x m ls W' GH GX GK s' ls') (p : PairAt B W KH KX g y t) (hf : ∀ k, KH k ∨ KX k → ¬ (FH k ∨ FX k ∨ FK k)) : PairAt B W' KH KX g y t ∧ ∀ k, KH k ∨ KX k → ¬ (GH k ∨ GX k ∨ GK k) :=
  ⟨p.only A.only hf, fun k hk e => (A.new k e).elim (hf k hk) fun e => by have := (p.lt hk).2; omega⟩
theorem IsBook.new {w : World} (hB : B ≤ kb) (hb : Blk w kb 39 [.slice none 0 0, .slice none 0 0]) : IsBook B w (One kb) kb [] :=
  ⟨⟨.slice none 0 0, .slice none 0 0, hb, ⟨rfl, .inl ⟨rfl, rfl⟩⟩, ⟨rfl, .inl ⟨rfl, rfl⟩⟩, fun _ h => (by cases h), List.Pairwise.nil, rfl, fun k h => (by cases h), fun k h => (by cases h), fun _ h => (by cases h)⟩,
    fun k e => by rw [show k = kb from e]; exact ⟨hB, hb.lt⟩, Nat.le_trans hB (Nat.le_of_lt hb.lt)⟩
/-- Two pairs and the book. -/
structure Two (B : Nat) (a0 a1 : Addr) (W : World) (kb h x g y : Nat) (ls : List Ls) : Prop where
  ex : ∃ FH FX FK KH KX s t, Set0 B a0 a1 W FH FX FK kb h x s ls ∧ PairAt B W KH KX g y t ∧ ∀ k, KH k ∨ KX k → ¬ (FH k ∨ FX k ∨ FK k)
  short : ∀ z ∈ ls, z.2.length ≤ 16777216
theorem Two.swap {g y : Nat} (T : Two B a0 a1 W kb h x g y ls) : Two B a0 a1 W kb g y h x ls := by
  obtain ⟨⟨FH, FX, FK, KH, KX, s, t, S0, p, hf⟩, hs⟩ := T
  exact ⟨⟨KH, KX, FK, FH, FX, t, s, ⟨p, S0.book, fun k hk e => hf k e (.inr (.inr hk)), S0.errs, S0.len⟩, S0.pair, fun k hk e => by
    rcases e with e | e | e
    · exact hf k (.inl e) (hk.imp id .inl)
    · exact hf k (.inr e) (hk.imp id .inl)
    · exact S0.far k e hk⟩, hs⟩
theorem Two.after {g y m : Nat} (T : Two B a0 a1 W kb h x g y ls) {R : Ending → World → Prop} {f : FuncId} {args : Array Value} {r : Ending}
    (H : ∀ FH FX FK s, Set0 B a0 a1 W FH FX FK kb h x s ls → Calls Tryd.prog f args W fun e W' => e = r ∧ After B W FH FX FK kb h x m ls W') (hl : ls.length + m ≤ 50000000000)
    (hR : ∀ W' ls', Two B a0 a1 W' kb h x g y ls' → ls'.length ≤ ls.length + m → Only (fun k => B ≤ k) W W' → R r W') : Calls Tryd.prog f args W R := by
  obtain ⟨⟨FH, FX, FK, KH, KX, s, t, S0, p, hf⟩, hs⟩ := T
  refine (H FH FX FK s S0).mono fun e W' ⟨e1, GH, GX, GK, s', ls', A⟩ => ?_
  subst e1
  obtain ⟨p', hf'⟩ := A.other p hf
  exact hR W' ls' ⟨⟨GH, GX, GK, KH, KX, s', t, A.set0 S0 (Nat.le_trans A.len hl), p', hf'⟩, fun z hz => (A.short z hz).elim (hs z) id⟩ A.len (A.only.mono fun k _ hk => hk.elim (fun h => (S0.pair.hold.own k h).1) fun h => h.elim (fun h => (S0.pair.ref.own k h).1) fun h => (S0.book.own k h).1)
theorem Two.nil {g y : Nat} (T : Two B a0 a1 W kb h x g y ls) (ho : Only Nil W W') : Two B a0 a1 W' kb h x g y ls := by
  obtain ⟨⟨FH, FX, FK, KH, KX, s, t, S0, p, hf⟩, hs⟩ := T
  exact ⟨⟨FH, FX, FK, KH, KX, s, t, S0.nil ho, p.nil ho, hf⟩, hs⟩
/-- Owned, then a new book. -/
theorem Two.owned {g y : Nat} (T : Two B a0 a1 W kb h x g y ls) : Calls Tryd.prog 16 #[.pointer (some ⟨kb, 0, none⟩)] W fun e W' => e = .returned (.bool true) ∧ Only (fun k => B ≤ k) W W' ∧
    ∀ W2 kb', Only Nil W' W2 → W'.heap.size ≤ kb' → Blk W2 kb' 39 [.slice none 0 0, .slice none 0 0] → Two B a0 a1 W2 kb' h x g y [] := by
  obtain ⟨⟨FH, FX, FK, KH, KX, s, t, S0, p, hf⟩, hs⟩ := T
  refine (owned_any S0.book (by have := S0.len; omega) fun z hz => by have := hs z hz; omega).mono fun e W' ⟨e1, ho⟩ => ⟨e1, ho.mono fun k _ hk => (S0.book.own k hk).1, fun W2 kb' h2 hkb hb => ?_⟩
  have hsz := ho.size
  have p1 := (S0.pair.only ho fun k hk e => S0.far k e hk).nil h2
  have p2 := (p.only ho fun k hk e => hf k hk (.inr (.inr e))).nil h2
  have lt1 : ∀ k, FH k ∨ FX k → k < W.heap.size := fun k hk => (S0.pair.lt hk).2
  have lt2 : ∀ k, KH k ∨ KX k → k < W.heap.size := fun k hk => (p.lt hk).2
  have hBk : B ≤ kb' := by have := S0.book.base; omega
  refine ⟨⟨FH, FX, One kb', KH, KX, s, t, ⟨p1, IsBook.new hBk hb, fun k e hk => by have := lt1 k hk; have : k = kb' := e; omega, (S0.errs.only ho fun k hk => (S0.book.own k hk).1).only h2 fun _ e => e.elim, by simp⟩, p2, fun k hk e => ?_⟩, fun _ h => by cases h⟩
  rcases e with e | e | e
  · exact hf k hk (.inl e)
  · exact hf k hk (.inr (.inl e))
  · have := lt2 k hk; have : k = kb' := e; omega
theorem OwnB.low {B B' : Nat} {w : World} {v : Value} {bs : List UInt8} (h : OwnB B' w v bs) (hB : B ≤ B') : OwnB B w v bs :=
  ⟨h.1, h.2.imp id fun ⟨g, cap, cur, e1, e2, e3⟩ => ⟨g, cap, cur, e1, Nat.le_trans hB e2, e3⟩⟩
end
end Go.Proofs.YthkongkbefpilaaDoor
