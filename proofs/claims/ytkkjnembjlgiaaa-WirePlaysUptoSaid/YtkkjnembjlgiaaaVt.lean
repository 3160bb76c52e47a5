/-
  WirePlays: two wires and what came out (Sea); its walk.
-/
import Derived.Test.YtkkjnembjlgiaaaVs
import Derived.Test.YtkkjnembjlgiaaaWn
namespace Go.Proofs.Ytkkjnembjlgiaaa
set_option maxRecDepth 100000
open Go.RowKit

structure SeaAt (B : Nat) (W : World) (c : Nat → Nat) (kb bk w x v y n : Nat) (s r s2 r2 : WS) (ks : List Ke) : Prop where
  one : Half B W c 1 3 w x s r n
  two : Half B W c 2 4 v y s2 r2 n
  kept : Kept B W c kb bk ks
  ok : KsOk ks
  len : ks.length ≤ n
  low : ∀ k, k < B → c k = 0
def Sea (B : Nat) (W : World) (kb bk w x v y n : Nat) : Prop := ∃ c s r s2 r2 ks, SeaAt B W c kb bk w x v y n s r s2 r2 ks
/-- What is left when what came out is gone. -/
structure Duo (B : Nat) (W : World) (w x v y n : Nat) : Prop where
  ex : ∃ c s r s2 r2, Half B W c 1 3 w x s r n ∧ Half B W c 2 4 v y s2 r2 n
theorem IsBook.new {B bk : Nat} {w : World} (hB : B ≤ bk) (hb : Blk w bk 34 [.slice none 0 0, .slice none 0 0]) : IsBook B w (One bk) bk [] :=
  ⟨⟨.slice none 0 0, .slice none 0 0, hb, ⟨rfl, .inl ⟨rfl, rfl⟩⟩, ⟨rfl, .inl ⟨rfl, rfl⟩⟩, fun _ h => (by cases h), List.Pairwise.nil, rfl, fun k h => (by cases h), fun k h => (by cases h), fun _ h => (by cases h)⟩,
    fun k e => by rw [show k = bk from e]; exact ⟨hB, hb.lt⟩, Nat.le_trans hB (Nat.le_of_lt hb.lt)⟩
theorem Kept.new {B kb bk : Nat} {W : World} {c : Nat → Nat} (hk : Blk W kb 37 [.pointer (some ⟨bk, 0, none⟩), .slice none 0 0, .slice none 0 0]) (hb : Blk W bk 34 [.slice none 0 0, .slice none 0 0]) (hkB : B ≤ kb) (hbB : B ≤ bk) (c5 : c kb = 5) (c6 : c bk = 6) : Kept B W c kb bk [] :=
  ⟨⟨.slice none 0 0, .slice none 0 0, hk, ⟨rfl, .inl ⟨rfl, rfl⟩⟩, ⟨rfl, .inl ⟨rfl, rfl⟩⟩, fun _ h => (by cases h), fun _ h => (by cases h), fun _ h => (by cases h), fun _ h => (by cases h), fun _ h => (by cases h), fun _ h => (by cases h), List.Pairwise.nil, List.Pairwise.nil, ⟨c5, fun _ h => (by cases h), fun _ h => (by cases h)⟩, fun _ h => (by cases h)⟩,
    ⟨One bk, IsBook.new hbB hb, fun k e => by rw [show k = bk from e]; exact c6⟩, hkB⟩
section
variable {B : Nat} {W W' W1 W2 W3 W4 W5 : World} {kb bk w x v y n : Nat}
theorem Sea.base (S : Sea B W kb bk w x v y n) : B ≤ W.heap.size := by
  obtain ⟨c, s, r, s2, r2, ks, S⟩ := S
  exact S.one.base
theorem Sea.nil (S : Sea B W kb bk w x v y n) (ho : Only Nil W W') : Sea B W' kb bk w x v y n := by
  obtain ⟨c, s, r, s2, r2, ks, S⟩ := S
  exact ⟨c, s, r, s2, r2, ks, S.one.nil ho, S.two.nil ho, S.kept.nil ho, S.ok, S.len, S.low⟩
/-- A call at the first pair. -/
theorem Sea.first (S : Sea B W kb bk w x v y n) {R : Ending → World → Prop} {f : FuncId} {args : Array Value} {e0 : Ending}
    (H : ∀ c s r ks, Half B W c 1 3 w x s r n → Kept B W c kb bk ks → KsOk ks → ks.length ≤ n → Calls Try.prog f args W fun e W' => e = e0 ∧ After B W c 1 3 w x kb bk n ks W')
    (hR : ∀ W', Sea B W' kb bk w x v y (n + 1) → Only (fun k => B ≤ k) W W' → R e0 W') : Calls Try.prog f args W R := by
  obtain ⟨c, s, r, s2, r2, ks, S⟩ := S
  have hij : IJ 1 3 := ⟨by decide, ⟨by decide, by decide⟩, ⟨by decide, by decide⟩⟩
  refine (H c s r ks S.one S.kept S.ok S.len).mono fun e W' ⟨e1, c', s', r', ks', A⟩ => ?_
  subst e1
  have hB := S.one.base
  refine hR W' ⟨c', s', r', s2, r2, ks', A.half, (A.other hij S.two ⟨by decide, by decide, by decide, by decide, by decide, by decide⟩).mono, A.kept, A.ok, by have := A.len; have := S.len; omega, fun k hk => ?_⟩ (A.only.mono fun k _ e => ?_)
  · have h0 := S.low k hk
    rw [A.colour k (by omega) (by omega)]
    exact h0
  · rcases Nat.lt_or_ge k B with h | h
    · have h0 := S.low k h
      have e' : c k = 1 ∨ c k = 3 ∨ c k = 5 := e
      omega
    · exact h
theorem Sea.second (S : Sea B W kb bk w x v y n) {R : Ending → World → Prop} {f : FuncId} {args : Array Value} {e0 : Ending}
    (H : ∀ c s r ks, Half B W c 2 4 v y s r n → Kept B W c kb bk ks → KsOk ks → ks.length ≤ n → Calls Try.prog f args W fun e W' => e = e0 ∧ After B W c 2 4 v y kb bk n ks W')
    (hR : ∀ W', Sea B W' kb bk w x v y (n + 1) → Only (fun k => B ≤ k) W W' → R e0 W') : Calls Try.prog f args W R := by
  obtain ⟨c, s, r, s2, r2, ks, S⟩ := S
  have hij : IJ 2 4 := ⟨by decide, ⟨by decide, by decide⟩, ⟨by decide, by decide⟩⟩
  refine (H c s2 r2 ks S.two S.kept S.ok S.len).mono fun e W' ⟨e1, c', s', r', ks', A⟩ => ?_
  subst e1
  have hB := S.one.base
  refine hR W' ⟨c', s, r, s', r', ks', (A.other hij S.one ⟨by decide, by decide, by decide, by decide, by decide, by decide⟩).mono, A.half, A.kept, A.ok, by have := A.len; have := S.len; omega, fun k hk => ?_⟩ (A.only.mono fun k _ e => ?_)
  · have h0 := S.low k hk
    rw [A.colour k (by omega) (by omega)]
    exact h0
  · rcases Nat.lt_or_ge k B with h | h
    · have h0 := S.low k h
      have e' : c k = 2 ∨ c k = 4 ∨ c k = 5 := e
      omega
    · exact h
/-- stands; then new ones are kept. -/
theorem Sea.stands (S : Sea B W kb bk w x v y n) (hn : n ≤ 10000000) : Calls Try.prog 11 #[.pointer (some ⟨kb, 0, none⟩)] W fun e W' => e = .returned (.bool true) ∧ Only (fun k => B ≤ k) W W' ∧ Duo B W' w x v y n ∧
    ∀ W2 bk', Only Nil W' W2 → W'.heap.size ≤ bk' → Blk W2 bk' 34 [.slice none 0 0, .slice none 0 0] → Blk W2 (bk' + 1) 37 [.pointer (some ⟨bk', 0, none⟩), .slice none 0 0, .slice none 0 0] → Sea B W2 (bk' + 1) bk' w x v y n := by
  obtain ⟨c, s, r, s2, r2, ks, S⟩ := S
  have hB := S.one.base
  refine (stands_any S.kept S.ok (by have := S.len; omega)).mono fun e W' ⟨e1, ho⟩ => ⟨e1, ho.mono fun k _ hk => ?_, ?_, fun W2 bk' h2 hbk hb hk => ?_⟩
  · rcases Nat.lt_or_ge k B with h | h
    · have h0 := S.low k h
      have hk' : c k = 5 ∨ c k = 6 := hk
      omega
    · exact h
  · exact ⟨c, s, r, s2, r2, S.one.only ho fun k hk => by have hk' : c k = 5 ∨ c k = 6 := hk; omega, S.two.only ho fun k hk => by have hk' : c k = 5 ∨ c k = 6 := hk; omega⟩
  · have hsz := ho.size
    have ho2 : Only (fun k => c k = 5 ∨ c k = 6) W W2 := ho.then (h2.mono fun _ _ e => e.elim)
    have key : ∀ (m : Nat), m = 1 ∨ m = 2 ∨ m = 3 ∨ m = 4 ∨ m = 7 → ∀ k, k < W.heap.size → c k = m → (fun k => if k < W.heap.size then (if c k = 5 ∨ c k = 6 then 0 else c k) else if k = bk' then 6 else if k = bk' + 1 then 5 else 0) k = c k := fun m hm k hk e => by
      show (if k < W.heap.size then (if c k = 5 ∨ c k = 6 then 0 else c k) else if k = bk' then 6 else if k = bk' + 1 then 5 else 0) = c k
      rw [if_pos hk, if_neg (by omega)]
    refine ⟨fun k => if k < W.heap.size then (if c k = 5 ∨ c k = 6 then 0 else c k) else if k = bk' then 6 else if k = bk' + 1 then 5 else 0, s, r, s2, r2, [], S.one.keep ho2 (fun k _ hk => by omega) (fun k hk e => ?_), S.two.keep ho2 (fun k _ hk => by omega) (fun k hk e => ?_), Kept.new hk hb (by omega) (by omega) ?_ ?_, fun _ h => (by cases h), Nat.zero_le _, fun k hk => ?_⟩
    · rcases e with e | e | e
      · exact key 1 (by omega) k hk e
      · exact key 3 (by omega) k hk e
      · exact key 7 (by omega) k hk e
    · rcases e with e | e | e
      · exact key 2 (by omega) k hk e
      · exact key 4 (by omega) k hk e
      · exact key 7 (by omega) k hk e
    · show (if bk' + 1 < W.heap.size then (if c (bk' + 1) = 5 ∨ c (bk' + 1) = 6 then 0 else c (bk' + 1)) else if bk' + 1 = bk' then 6 else if bk' + 1 = bk' + 1 then 5 else 0) = 5
      rw [if_neg (by omega), if_neg (by omega), if_pos rfl]
    · show (if bk' < W.heap.size then (if c bk' = 5 ∨ c bk' = 6 then 0 else c bk') else if bk' = bk' then 6 else if bk' = bk' + 1 then 5 else 0) = 6
      rw [if_neg (by omega), if_pos rfl]
    · show (if k < W.heap.size then (if c k = 5 ∨ c k = 6 then 0 else c k) else if k = bk' then 6 else if k = bk' + 1 then 5 else 0) = 0
      have h0 := S.low k hk
      rw [if_pos (by omega), if_neg (by omega)]
      exact h0
/-- What four times New leaves. -/
theorem Sea.make {W0 : World} {F1 F2 F3 F4 : Nat → Prop} (h0 : B ≤ W0.heap.size) (i1 : IsWire B W1 F1 w ws0) (o1 : Only Nil W0 W1) (n1 : ∀ k, F1 k → W0.heap.size ≤ k) (i2 : IsWire B W2 F2 v ws0) (o2 : Only Nil W1 W2) (n2 : ∀ k, F2 k → W1.heap.size ≤ k)
    (i3 : IsVire B W3 F3 x ws0) (o3 : Only Nil W2 W3) (n3 : ∀ k, F3 k → W2.heap.size ≤ k) (i4 : IsVire B W4 F4 y ws0) (o4 : Only Nil W3 W4) (n4 : ∀ k, F4 k → W3.heap.size ≤ k)
    (o5 : Only Nil W4 W5) (hbk : W4.heap.size ≤ bk) (hb : Blk W5 bk 34 [.slice none 0 0, .slice none 0 0]) (hk : Blk W5 (bk + 1) 37 [.pointer (some ⟨bk, 0, none⟩), .slice none 0 0, .slice none 0 0]) : Sea B W5 (bk + 1) bk w x v y 0 := by
  have e : ∀ {k : Nat}, ¬ Nil k := fun e => e
  have z1 := o1.size
  have z2 := o2.size
  have z3 := o3.size
  have z4 := o4.size
  have nofr : ∀ k, ¬ Frs ws0.ways k := fun k ⟨_, h, _⟩ => by cases h
  refine ⟨fun k => if k < W0.heap.size then 0 else if k < W1.heap.size then 1 else if k < W2.heap.size then 2 else if k < W3.heap.size then 3 else if k < W4.heap.size then 4 else if k = bk then 6 else 5, ws0, ws0, ws0, ws0, [],
    ⟨⟨F1, (((i1.only o2 fun _ _ => e).only o3 fun _ _ => e).only o4 fun _ _ => e).only o5 fun _ _ => e, fun k hk => ?_⟩, ⟨F3, (i3.nil o4).nil o5, fun k hk => ?_⟩, fun k hk => absurd hk (nofr k), Rel.init, Sane.init⟩,
    ⟨⟨F2, ((i2.only o3 fun _ _ => e).only o4 fun _ _ => e).only o5 fun _ _ => e, fun k hk => ?_⟩, ⟨F4, i4.nil o5, fun k hk => ?_⟩, fun k hk => absurd hk (nofr k), Rel.init, Sane.init⟩,
    Kept.new hk hb (by omega) (by omega) ?_ ?_, fun _ h => (by cases h), Nat.le_refl _, fun k hk => ?_⟩
  · have a1 := n1 k hk
    have a2 := (i1.own k hk).2
    rw [if_neg (by omega), if_pos a2]
  · have a1 := n3 k hk
    have a2 := (i3.own k hk).2
    rw [if_neg (by omega), if_neg (by omega), if_neg (by omega), if_pos a2]
  · have a1 := n2 k hk
    have a2 := (i2.own k hk).2
    rw [if_neg (by omega), if_neg (by omega), if_pos a2]
  · have a1 := n4 k hk
    have a2 := (i4.own k hk).2
    rw [if_neg (by omega), if_neg (by omega), if_neg (by omega), if_neg (by omega), if_pos a2]
  · rw [if_neg (by omega), if_neg (by omega), if_neg (by omega), if_neg (by omega), if_neg (by omega), if_neg (by omega)]
  · rw [if_neg (by omega), if_neg (by omega), if_neg (by omega), if_neg (by omega), if_neg (by omega), if_pos rfl]
  · rw [if_pos (by omega)]
end
end Go.Proofs.Ytkkjnembjlgiaaa
