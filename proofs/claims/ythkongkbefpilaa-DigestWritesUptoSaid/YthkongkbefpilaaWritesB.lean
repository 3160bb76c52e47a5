/-
  Two hashes of the digest and two of the reference side by side in memory: what a call of one of them leaves of the others.
-/
import Derived.Test.YthkongkbefpilaaWritesA
namespace Go.Proofs.Ythkongkbefpilaa
open Go.RowKit Sha

def upd {α : Type} (f : Nat → α) (k : Nat) (v : α) : Nat → α := fun i => if i = k then v else f i
theorem upd_self {α : Type} (f : Nat → α) (k : Nat) (v : α) : upd f k v k = v := if_pos rfl
theorem upd_ne {α : Type} (f : Nat → α) (k : Nat) (v : α) {i : Nat} (h : i ≠ k) : upd f k v i = f i := if_neg h
theorem blk_ne {W : World} {g g' : Nat} {t t' : TypeId} {cs cs' : List Value} (h : Blk W g t cs) (h' : Blk W g' t' cs') (ht : t ≠ t') : g ≠ g' := by
  rintro rfl
  unfold Blk at h h'
  rw [h] at h'
  injection h' with h'
  injection h' with _ h'
  exact ht h'
def RHx (W : World) (base g : Nat) (vh vr : Value) (m : List UInt8) : Prop :=
  Blk W g 45 [vh, vr, .int .i64 (m.length : Nat)] ∧ W.ownsRow 0 52 1 vh 8 (WC (state m).list) ∧ W.ownsRow base 5 1 vr (rest m).length (BC (rest m))
theorem RHx.v {W : World} {base g : Nat} {vh vr : Value} {m : List UInt8} (h : RHx W base g vh vr m) : RHv W base g vr m (m.length : Nat) := ⟨vh, h⟩
theorem RHx.only {S : Nat → Prop} {W W' : World} {base g : Nat} {vh vr : Value} {m : List UInt8} (h : RHx W base g vh vr m) (ho : Only S W W') (h1 : ¬ S g) (h2 : ∀ k, vh.ownBlock = some k → ¬ S k) (h3 : ∀ k, vr.ownBlock = some k → ¬ S k) : RHx W' base g vh vr m :=
  ⟨ho.blk h.1 h1, own_only h.2.1 ho h2, own_only h.2.2 ho h3⟩
def hp (g : Nat) : Value := .pointer (some ⟨g, 0, none⟩)
structure St (w : World) (gh gx : Nat) (G X : Nat → Nat) (U V : Nat → Value) (MH MR : Nat → List UInt8) (W : World) : Prop where
  only : Only Nil w W
  h : Blk W gh 31 [hp (G 0), hp (G 1)]
  x : Blk W gx 34 [hp (X 0), hp (X 1)]
  hash : ∀ i, i < 2 → HashAt W (G i) (MH i)
  ref : ∀ i, i < 2 → RHx W w.heap.size (X i) (U i) (V i) (MR i)
  aG : ∀ i j, i < 2 → j < 2 → i ≠ j → G i ≠ G j
  aX : ∀ i j, i < 2 → j < 2 → i ≠ j → X i ≠ X j
  aV : ∀ i j k, i < 2 → j < 2 → i ≠ j → (V i).ownBlock = some k → (V j).ownBlock ≠ some k
  lh : w.heap.size ≤ gh
  lx : w.heap.size ≤ gx
  lG : ∀ i, i < 2 → w.heap.size ≤ G i
  lX : ∀ i, i < 2 → w.heap.size ≤ X i
/-- All blocks of it lie below b. -/
def Low (gh gx : Nat) (G X : Nat → Nat) (U V : Nat → Value) (b : Nat) : Prop :=
  gh < b ∧ gx < b ∧ ∀ i, i < 2 → G i < b ∧ X i < b ∧ (∀ k, (U i).ownBlock = some k → k < b) ∧ (∀ k, (V i).ownBlock = some k → k < b)
section
variable {w W W' : World} {gh gx : Nat} {G X : Nat → Nat} {U V : Nat → Value} {MH MR : Nat → List UInt8}
theorem St.low (h : St w gh gx G X U V MH MR W) : Low gh gx G X U V W.heap.size :=
  ⟨h.h.lt, h.x.lt, fun i hi => ⟨(h.hash i hi).lt, (h.ref i hi).1.lt, fun k hk => (own_block (h.ref i hi).2.1 k hk).2, fun k hk => (own_block (h.ref i hi).2.2 k hk).2⟩⟩
theorem St.keep {S : Nat → Prop} (h : St w gh gx G X U V MH MR W) (ho : Only S W W') (hb : ∀ k, S k → w.heap.size ≤ k) (h1 : ¬ S gh) (h2 : ¬ S gx) (h3 : ∀ i, i < 2 → ¬ S (G i) ∧ ¬ S (X i) ∧ (∀ k, (U i).ownBlock = some k → ¬ S k) ∧ (∀ k, (V i).ownBlock = some k → ¬ S k)) :
    St w gh gx G X U V MH MR W' :=
  ⟨h.only.trans ho fun k hk => .inr (hb k hk), ho.blk h.h h1, ho.blk h.x h2, fun i hi => (h.hash i hi).only ho (h3 i hi).1, fun i hi => (h.ref i hi).only ho (h3 i hi).2.1 (h3 i hi).2.2.1 (h3 i hi).2.2.2, h.aG, h.aX, h.aV, h.lh, h.lx, h.lG, h.lX⟩
theorem St.nil (h : St w gh gx G X U V MH MR W) (ho : Only Nil W W') : St w gh gx G X U V MH MR W' :=
  h.keep ho (fun _ h => h.elim) id id fun _ _ => ⟨id, id, fun _ _ => id, fun _ _ => id⟩
theorem St.within {base top : Nat} (h : St w gh gx G X U V MH MR W) (hl : Low gh gx G X U V base) (hb : w.heap.size ≤ base) (ho : Only (Within base top) W W') : St w gh gx G X U V MH MR W' := by
  refine h.keep ho (fun k hk => Nat.le_trans hb hk.1) (fun hk => ?_) (fun hk => ?_) fun i hi => ⟨fun hk => ?_, fun hk => ?_, fun k e hk => ?_, fun k e hk => ?_⟩
  · exact Nat.not_lt.2 hk.1 hl.1
  · exact Nat.not_lt.2 hk.1 hl.2.1
  · exact Nat.not_lt.2 hk.1 (hl.2.2 i hi).1
  · exact Nat.not_lt.2 hk.1 (hl.2.2 i hi).2.1
  · exact Nat.not_lt.2 hk.1 ((hl.2.2 i hi).2.2.1 k e)
  · exact Nat.not_lt.2 hk.1 ((hl.2.2 i hi).2.2.2 k e)
theorem two {k : Nat} (h : k < 2) : k = 0 ∨ k = 1 := by omega
theorem St.cellH (h : St w gh gx G X U V MH MR W) {k : Nat} (hk : k < 2) : W.cell? ⟨gh, k, none⟩ = some (.pointer (some ⟨G k, 0, none⟩)) := by
  rcases two hk with rfl | rfl
  · exact h.h.cell 0
  · exact h.h.cell 1
theorem St.cellX (h : St w gh gx G X U V MH MR W) {k : Nat} (hk : k < 2) : W.cell? ⟨gx, k, none⟩ = some (.pointer (some ⟨X k, 0, none⟩)) := by
  rcases two hk with rfl | rfl
  · exact h.x.cell 0
  · exact h.x.cell 1
theorem hash_blk {g : Nat} {m : List UInt8} (h : HashAt W g m) : ∃ cs, Blk W g 56 cs := by
  obtain ⟨l, _, _, h⟩ := h
  exact ⟨_, h⟩
theorem St.hash_far (h : St w gh gx G X U V MH MR W) {i : Nat} (hi : i < 2) : gh ≠ G i ∧ gx ≠ G i ∧ ∀ j, j < 2 → X j ≠ G i ∧ (U j).ownBlock ≠ some (G i) ∧ (V j).ownBlock ≠ some (G i) := by
  obtain ⟨cs, hb⟩ := hash_blk (h.hash i hi)
  exact ⟨blk_ne h.h hb (by decide), blk_ne h.x hb (by decide), fun j hj => ⟨blk_ne (h.ref j hj).1 hb (by decide), own_ne_blk (h.ref j hj).2.1 hb (by decide), own_ne_blk (h.ref j hj).2.2 hb (by decide)⟩⟩
theorem St.write_hash {k : Nat} {m : List UInt8} (h : St w gh gx G X U V MH MR W) (hk : k < 2) (hh : HashAt W' (G k) m) (ho : Only (One (G k)) W W') : St w gh gx G X U V (upd MH k m) MR W' := by
  obtain ⟨f1, f2, f3⟩ := h.hash_far hk
  refine ⟨h.only.trans ho fun i hi => .inr (by rw [show i = G k from hi]; exact h.lG k hk), ho.blk h.h f1, ho.blk h.x f2, fun i hi => ?_, fun i hi => (h.ref i hi).only ho (f3 i hi).1 (fun j hj e => (f3 i hi).2.1 (by rw [hj, show j = G k from e])) (fun j hj e => (f3 i hi).2.2 (by rw [hj, show j = G k from e])), h.aG, h.aX, h.aV, h.lh, h.lx, h.lG, h.lX⟩
  by_cases hik : i = k
  · subst hik
    rw [upd_self]
    exact hh
  · rw [upd_ne _ _ _ hik]
    exact (h.hash i hi).only ho (h.aG i k hi hk hik)
theorem St.sw (h : St w gh gx G X U V MH MR W) {k : Nat} (hk : k < 2) {g : Nat} {t : TypeId} {cs : List Value} (hb : Blk W g t cs) (h1 : t ≠ 45) (h2 : t ≠ 5) : ¬ SW (X k) (V k) g := by
  rintro (h3 | h3)
  · exact blk_ne hb (h.ref k hk).1 h1 h3
  · exact own_ne_blk (h.ref k hk).2.2 hb (Ne.symm h2) h3
theorem St.write_ref {k : Nat} {m : List UInt8} {n : Int} (h : St w gh gx G X U V MH MR W) (hk : k < 2) (hw : WAt W w.heap.size (X k) (V k) m n W') (hn : n = (m.length : Nat)) : ∃ u v, St w gh gx G X (upd U k u) (upd V k v) MH (upd MR k m) W' := by
  obtain ⟨v, ⟨u, hr⟩, ho, hv⟩ := hw
  subst hn
  have hV := fun k' e => own_block (h.ref k hk).2.2 k' e
  have hlS : ∀ i, SW (X k) (V k) i → w.heap.size ≤ i := by
    rintro i (rfl | e)
    · exact h.lX k hk
    · exact (hV i e).1
  refine ⟨u, v, ⟨h.only.trans ho fun i hi => .inr (hlS i hi), ho.blk h.h (h.sw hk h.h (by decide) (by decide)), ho.blk h.x (h.sw hk h.x (by decide) (by decide)), fun i hi => (h.hash i hi).only ho ?_, fun i hi => ?_, h.aG, h.aX, fun i j l hi hj hij => ?_, h.lh, h.lx, h.lG, h.lX⟩⟩
  · obtain ⟨cs, hb⟩ := hash_blk (h.hash i hi)
    exact h.sw hk hb (by decide) (by decide)
  · by_cases hik : i = k
    · subst hik
      rw [upd_self, upd_self, upd_self]
      exact hr
    · rw [upd_ne _ _ _ hik, upd_ne _ _ _ hik, upd_ne _ _ _ hik]
      have hi' := h.ref i hi
      refine hi'.only ho ?_ ?_ ?_
      · rintro (e | e)
        · exact h.aX i k hi hk hik e
        · exact own_ne_blk (h.ref k hk).2.2 hi'.1 (by decide) e
      · rintro l hl (e | e)
        · exact own_ne_blk hi'.2.1 (h.ref k hk).1 (by decide) (by rw [hl, e])
        · exact own_ne_own hi'.2.1 (h.ref k hk).2.2 (by decide) hl e
      · rintro l hl (e | e)
        · exact own_ne_blk hi'.2.2 (h.ref k hk).1 (by decide) (by rw [hl, e])
        · exact h.aV i k l hi hk hik hl e
  · have key : ∀ i l, i < 2 → i ≠ k → v.ownBlock = some l → (V i).ownBlock ≠ some l := by
      intro i l hi hik hl e
      rcases hv l hl with h1 | h1
      · exact h.aV i k l hi hk hik e h1
      · have := (own_block (h.ref i hi).2.2 l e).2
        omega
    by_cases hik : i = k
    · subst hik
      rw [upd_self, upd_ne _ _ _ (Ne.symm hij)]
      exact fun e => key j l hj (Ne.symm hij) e
    · rw [upd_ne _ _ _ hik]
      by_cases hjk : j = k
      · subst hjk
        rw [upd_self]
        exact fun e e' => key i l hi hik e' e
      · rw [upd_ne _ _ _ hjk]
        exact h.aV i j l hi hj hij
theorem set_two {f : Nat → Nat} {k : Nat} (hk : k < 2) (g : Nat) : [hp (f 0), hp (f 1)].set k (hp g) = [hp (upd f k g 0), hp (upd f k g 1)] := by
  rcases two hk with rfl | rfl <;> rfl
theorem St.new_hash {k : Nat} (h : St w gh gx G X U V MH MR W) (hk : k < 2) :
    St w gh gx (upd G k W.heap.size) X U V (upd MH k []) MR ((W.alloc (.cells (HC Sha.start (List.replicate 64 0) 0).toArray 56)).setCell ⟨gh, k, none⟩ (.pointer (some ⟨W.heap.size, 0, none⟩))) := by
  have h1 := h.nil ((Only.refl Nil W).alloc (.cells (HC Sha.start (List.replicate 64 0) 0).toArray 56))
  have hn := HashAt.new W
  generalize hW1 : W.alloc (.cells (HC Sha.start (List.replicate 64 0) 0).toArray 56) = W1 at *
  have ho : Only (One gh) W1 (W1.setCell ⟨gh, k, none⟩ (.pointer (some ⟨W.heap.size, 0, none⟩))) := (Only.refl _ _).setCell (p := ⟨gh, k, none⟩) (.inl (One.self gh)) _
  have hlt : gh < W.heap.size := h.h.lt
  have hgh : ∀ i, i < 2 → G i < W.heap.size := fun i hi => (h.hash i hi).lt
  refine ⟨h1.only.trans ho fun i hi => .inr (by rw [show i = gh from hi]; exact h.lh), ?_, ho.blk h1.x (blk_ne h1.x h1.h (by decide)), fun i hi => ?_, fun i hi => (h1.ref i hi).only ho (blk_ne (h1.ref i hi).1 h1.h (by decide)) (fun j hj e => own_ne_blk (h1.ref i hi).2.1 h1.h (by decide) (by rw [hj, show j = gh from e])) (fun j hj e => own_ne_blk (h1.ref i hi).2.2 h1.h (by decide) (by rw [hj, show j = gh from e])),
    fun i j hi hj hij => ?_, h.aX, h.aV, h.lh, h.lx, fun i hi => ?_, h.lX⟩
  · have := h1.h.set k (hp W.heap.size)
    rw [set_two hk] at this
    exact this
  · by_cases hik : i = k
    · subst hik
      rw [upd_self, upd_self]
      exact hn.only ho fun e => by have : W.heap.size = gh := e; omega
    · rw [upd_ne _ _ _ hik, upd_ne _ _ _ hik]
      obtain ⟨cs, hb⟩ := hash_blk (h1.hash i hi)
      exact (h1.hash i hi).only ho (blk_ne hb h1.h (by decide))
  · by_cases hik : i = k
    · subst hik
      rw [upd_self, upd_ne _ _ _ (Ne.symm hij)]
      have := hgh j hj
      omega
    · rw [upd_ne _ _ _ hik]
      by_cases hjk : j = k
      · subst hjk
        rw [upd_self]
        have := hgh i hi
        omega
      · rw [upd_ne _ _ _ hjk]
        exact h.aG i j hi hj hij
  · by_cases hik : i = k
    · subst hik
      rw [upd_self]
      exact h.only.size
    · rw [upd_ne _ _ _ hik]
      exact h.lG i hi
theorem RHx.fresh (w : World) (base : Nat) : RHx ((w.alloc (.cells (WC Sha.start.list).toArray 52)).alloc (.cells #[.slice (some ⟨w.heap.size, 0, none⟩) 8 8, .slice none 0 0, .int .i64 0] 45)) base (w.heap.size + 1) (.slice (some ⟨w.heap.size, 0, none⟩) 8 8) (.slice none 0 0) [] := by
  refine ⟨?_, ?_, rfl, .inl ⟨rfl, rfl⟩⟩
  · have := Blk.new (w.alloc (.cells (WC Sha.start.list).toArray 52)) 45 [.slice (some ⟨w.heap.size, 0, none⟩) 8 8, .slice none 0 0, .int .i64 0]
    rw [World.size_alloc] at this
    exact this
  · exact World.ownsRow.alloc (own_built w 0 (Nat.zero_le _) Sha.start.list rfl) _
theorem St.new_ref {k : Nat} (h : St w gh gx G X U V MH MR W) (hk : k < 2) :
    St w gh gx G (upd X k (W.heap.size + 1)) (upd U k (.slice (some ⟨W.heap.size, 0, none⟩) 8 8)) (upd V k (.slice none 0 0)) MH (upd MR k [])
      (((W.alloc (.cells (WC Sha.start.list).toArray 52)).alloc (.cells #[.slice (some ⟨W.heap.size, 0, none⟩) 8 8, .slice none 0 0, .int .i64 0] 45)).setCell ⟨gx, k, none⟩ (.pointer (some ⟨W.heap.size + 1, 0, none⟩))) := by
  have h1 := h.nil (((Only.refl Nil W).alloc (.cells (WC Sha.start.list).toArray 52)).alloc (.cells #[.slice (some ⟨W.heap.size, 0, none⟩) 8 8, .slice none 0 0, .int .i64 0] 45))
  have hn := RHx.fresh W w.heap.size
  generalize hW1 : (W.alloc (.cells (WC Sha.start.list).toArray 52)).alloc (.cells #[.slice (some ⟨W.heap.size, 0, none⟩) 8 8, .slice none 0 0, .int .i64 0] 45) = W1 at *
  have ho : Only (One gx) W1 (W1.setCell ⟨gx, k, none⟩ (.pointer (some ⟨W.heap.size + 1, 0, none⟩))) := (Only.refl _ _).setCell (p := ⟨gx, k, none⟩) (.inl (One.self gx)) _
  have hlt : gx < W.heap.size := h.x.lt
  have hgh : ∀ i, i < 2 → X i < W.heap.size := fun i hi => (h.ref i hi).1.lt
  refine ⟨h1.only.trans ho fun i hi => .inr (by rw [show i = gx from hi]; exact h.lx), ho.blk h1.h (blk_ne h1.h h1.x (by decide)), ?_, fun i hi => ?_, fun i hi => ?_,
    h.aG, fun i j hi hj hij => ?_, fun i j l hi hj hij => ?_, h.lh, h.lx, h.lG, fun i hi => ?_⟩
  · have := h1.x.set k (hp (W.heap.size + 1))
    rw [set_two hk] at this
    exact this
  · obtain ⟨cs, hb⟩ := hash_blk (h1.hash i hi)
    exact (h1.hash i hi).only ho (blk_ne hb h1.x (by decide))
  · by_cases hik : i = k
    · subst hik
      rw [upd_self, upd_self, upd_self, upd_self]
      exact hn.only ho (fun e => by have : W.heap.size + 1 = gx := e; omega) (fun j hj e => by have : W.heap.size = j := Option.some.inj hj; have : j = gx := e; omega) (fun j hj => by cases hj)
    · rw [upd_ne _ _ _ hik, upd_ne _ _ _ hik, upd_ne _ _ _ hik, upd_ne _ _ _ hik]
      exact (h1.ref i hi).only ho (blk_ne (h1.ref i hi).1 h1.x (by decide)) (fun j hj e => own_ne_blk (h1.ref i hi).2.1 h1.x (by decide) (by rw [hj, show j = gx from e])) (fun j hj e => own_ne_blk (h1.ref i hi).2.2 h1.x (by decide) (by rw [hj, show j = gx from e]))
  · by_cases hik : i = k
    · subst hik
      rw [upd_self, upd_ne _ _ _ (Ne.symm hij)]
      have := hgh j hj
      omega
    · rw [upd_ne _ _ _ hik]
      by_cases hjk : j = k
      · subst hjk
        rw [upd_self]
        have := hgh i hi
        omega
      · rw [upd_ne _ _ _ hjk]
        exact h.aX i j hi hj hij
  · by_cases hik : i = k
    · subst hik
      rw [upd_self]
      intro e
      cases e
    · rw [upd_ne _ _ _ hik]
      by_cases hjk : j = k
      · subst hjk
        rw [upd_self]
        intro _ e
        cases e
      · rw [upd_ne _ _ _ hjk]
        exact h.aV i j l hi hj hij
  · by_cases hik : i = k
    · subst hik
      rw [upd_self]
      have := h.only.size
      omega
    · rw [upd_ne _ _ _ hik]
      exact h.lX i hi
end
/-- The low bit of a number. -/
theorem low_bit (x : Int) : ∃ k : Nat, k < 2 ∧ bits .and .i64 x 1 = (k : Int) := by
  refine ⟨(BitVec.ofInt 64 x &&& BitVec.ofInt 64 1).toNat, ?_, ?_⟩
  · have : (BitVec.ofInt 64 x &&& BitVec.ofInt 64 1).toNat ≤ 1 := by
      rw [BitVec.toNat_and]
      exact Nat.and_le_right
    omega
  · have h1 : (BitVec.ofInt 64 x &&& BitVec.ofInt 64 1).toNat ≤ 1 := by
      rw [BitVec.toNat_and]
      exact Nat.and_le_right
    show IntKind.i64.wrap ((BitVec.ofInt 64 x &&& BitVec.ofInt 64 1).toNat : Int) = _
    generalize (BitVec.ofInt 64 x &&& BitVec.ofInt 64 1).toNat = n at *
    match n, h1 with
    | 0, _ => decide
    | 1, _ => decide
theorem solo {w : World} {v : Value} {bs : List UInt8} (h : RB w v bs) : Parts (w.alloc (.cells #[v] 37)) (.slice (some ⟨w.heap.size, 0, none⟩) 1 1) [v] [bs] := by
  refine ⟨⟨_, 1, rfl, Nat.le_refl 1, fun _ => ⟨w.heap.size, 0, rfl, fun j hj => ?_⟩⟩, rfl, fun j hj => ?_⟩
  · obtain rfl : j = 0 := by simpa using hj
    exact (Blk.new w 37 [v]).cell 0
  · obtain rfl : j = 0 := by simpa using hj
    exact h.alloc _
/-- The world behind the making of both pairs. -/
def Made (W : World) : World :=
  ((((((((W.alloc (.cells (HC Sha.start (List.replicate 64 0) 0).toArray 56)).alloc (.cells (HC Sha.start (List.replicate 64 0) 0).toArray 56)).alloc
    (.cells #[.pointer (some ⟨W.heap.size, 0, none⟩), .pointer (some ⟨W.heap.size + 1, 0, none⟩)] 31)).alloc (.cells (WC Sha.start.list).toArray 52)).alloc
    (.cells #[.slice (some ⟨W.heap.size + 1 + 1 + 1, 0, none⟩) 8 8, .slice none 0 0, .int .i64 0] 45)).alloc (.cells (WC Sha.start.list).toArray 52)).alloc
    (.cells #[.slice (some ⟨W.heap.size + 1 + 1 + 1 + 1 + 1, 0, none⟩) 8 8, .slice none 0 0, .int .i64 0] 45)).alloc
    (.cells #[.pointer (some ⟨W.heap.size + 1 + 1 + 1 + 1, 0, none⟩), .pointer (some ⟨W.heap.size + 1 + 1 + 1 + 1 + 1 + 1, 0, none⟩)] 34))
theorem St.start {w W : World} (h : Only Nil w W) : St w (W.heap.size + 1 + 1) (W.heap.size + 1 + 1 + 1 + 1 + 1 + 1 + 1) (fun i => W.heap.size + i) (fun i => W.heap.size + 4 + 2 * i) (fun i => .slice (some ⟨W.heap.size + 3 + 2 * i, 0, none⟩) 8 8) (fun _ => .slice none 0 0) (fun _ => []) (fun _ => []) (Made W) := by
  unfold Made
  have hs := h.size
  generalize hW1 : W.alloc (.cells (HC Sha.start (List.replicate 64 0) 0).toArray 56) = W1
  have s1 : W1.heap.size = W.heap.size + 1 := by rw [← hW1, World.size_alloc]
  have n1 : HashAt W1 W.heap.size [] := hW1 ▸ HashAt.new W
  have o1 : Only Nil w W1 := hW1 ▸ h.alloc _
  generalize hW2 : W1.alloc (.cells (HC Sha.start (List.replicate 64 0) 0).toArray 56) = W2
  have s2 : W2.heap.size = W.heap.size + 1 + 1 := by rw [← hW2, World.size_alloc, s1]
  have n2 : HashAt W2 (W.heap.size + 1) [] := by
    have := HashAt.new W1
    rw [hW2, s1] at this
    exact this
  have o2 : Only Nil W1 W2 := hW2 ▸ (Only.refl _ _).alloc _
  generalize hW3 : W2.alloc (.cells #[.pointer (some ⟨W.heap.size, 0, none⟩), .pointer (some ⟨W.heap.size + 1, 0, none⟩)] 31) = W3
  have s3 : W3.heap.size = W.heap.size + 1 + 1 + 1 := by rw [← hW3, World.size_alloc, s2]
  have n3 : Blk W3 (W.heap.size + 1 + 1) 31 [hp W.heap.size, hp (W.heap.size + 1)] := by
    have := Blk.new W2 31 [hp W.heap.size, hp (W.heap.size + 1)]
    rw [s2] at this
    exact hW3 ▸ this
  have o3 : Only Nil W2 W3 := hW3 ▸ (Only.refl _ _).alloc _
  have r4 := RHx.fresh W3 w.heap.size
  rw [s3] at r4
  generalize hW5 : (W3.alloc (.cells (WC Sha.start.list).toArray 52)).alloc (.cells #[.slice (some ⟨W.heap.size + 1 + 1 + 1, 0, none⟩) 8 8, .slice none 0 0, .int .i64 0] 45) = W5 at *
  have s5 : W5.heap.size = W.heap.size + 1 + 1 + 1 + 1 + 1 := by rw [← hW5, World.size_alloc, World.size_alloc, s3]
  have o5 : Only Nil W3 W5 := hW5 ▸ ((Only.refl _ _).alloc _).alloc _
  have r6 := RHx.fresh W5 w.heap.size
  rw [s5] at r6
  generalize hW7 : (W5.alloc (.cells (WC Sha.start.list).toArray 52)).alloc (.cells #[.slice (some ⟨W.heap.size + 1 + 1 + 1 + 1 + 1, 0, none⟩) 8 8, .slice none 0 0, .int .i64 0] 45) = W7 at *
  have s7 : W7.heap.size = W.heap.size + 1 + 1 + 1 + 1 + 1 + 1 + 1 := by rw [← hW7, World.size_alloc, World.size_alloc, s5]
  have o7 : Only Nil W5 W7 := hW7 ▸ ((Only.refl _ _).alloc _).alloc _
  generalize hW8 : W7.alloc (.cells #[.pointer (some ⟨W.heap.size + 1 + 1 + 1 + 1, 0, none⟩), .pointer (some ⟨W.heap.size + 1 + 1 + 1 + 1 + 1 + 1, 0, none⟩)] 34) = W8
  have n8 : Blk W8 (W.heap.size + 1 + 1 + 1 + 1 + 1 + 1 + 1) 34 [hp (W.heap.size + 1 + 1 + 1 + 1), hp (W.heap.size + 1 + 1 + 1 + 1 + 1 + 1)] := by
    have := Blk.new W7 34 [hp (W.heap.size + 1 + 1 + 1 + 1), hp (W.heap.size + 1 + 1 + 1 + 1 + 1 + 1)]
    rw [s7] at this
    exact hW8 ▸ this
  have o8 : Only Nil W7 W8 := hW8 ▸ (Only.refl _ _).alloc _
  have o58 := o7.then o8
  have o38 := o5.then o58
  have o28 := o3.then o38
  refine ⟨o1.then (o2.then o28), o38.blk n3 id, n8, fun i hi => ?_, fun i hi => ?_, fun i j hi hj hij => ?_, fun i j hi hj hij => ?_, fun i j k _ _ _ e => ?_, by omega, by omega, fun i hi => ?_, fun i hi => ?_⟩
  · rcases two hi with rfl | rfl
    · exact n1.only (o2.then o28) id
    · exact n2.only o28 id
  · rcases two hi with rfl | rfl
    · exact r4.only o58 id (fun _ _ => id) fun _ _ => id
    · exact r6.only o8 id (fun _ _ => id) fun _ _ => id
  · show W.heap.size + i ≠ W.heap.size + j
    omega
  · show W.heap.size + 4 + 2 * i ≠ W.heap.size + 4 + 2 * j
    omega
  · cases e
  · show w.heap.size ≤ W.heap.size + i
    omega
  · show w.heap.size ≤ W.heap.size + 4 + 2 * i
    omega
theorem Low.mono {gh gx : Nat} {G X : Nat → Nat} {U V : Nat → Value} {b b' : Nat} (h : Low gh gx G X U V b) (hb : b ≤ b') : Low gh gx G X U V b' :=
  ⟨Nat.lt_of_lt_of_le h.1 hb, Nat.lt_of_lt_of_le h.2.1 hb, fun i hi => ⟨Nat.lt_of_lt_of_le (h.2.2 i hi).1 hb, Nat.lt_of_lt_of_le (h.2.2 i hi).2.1 hb, fun k e => Nat.lt_of_lt_of_le ((h.2.2 i hi).2.2.1 k e) hb, fun k e => Nat.lt_of_lt_of_le ((h.2.2 i hi).2.2.2 k e) hb⟩⟩
/-- What one lent part is. -/
theorem lent_one {W : World} {base top : Nat} {v : Value} {xs : List Value} {l : List UInt8} (h : LentOk W base top v xs [l]) : ∃ gv cv gq cq, v = .slice (some ⟨gv, 0, none⟩) 1 cv ∧ xs = [.slice (some ⟨gq, 0, none⟩) l.length cq] ∧ base ≤ gq ∧ gq < top := by
  obtain ⟨g, cap, rfl, _⟩ := own_form h.row (by simp)
  have hl := h.len
  match xs, hl with
  | [x], _ =>
    obtain ⟨gq, cq, h1, h2, hx, _⟩ := h.each 0 (by simp)
    obtain rfl : x = .slice (some ⟨gq, 0, none⟩) l.length cq := hx
    exact ⟨g, cap, gq, cq, rfl, rfl, h1, h2⟩
theorem lent_cell {W : World} {base top gv cv : Nat} {x : Value} {l : List UInt8} (h : LentOk W base top (.slice (some ⟨gv, 0, none⟩) 1 cv) [x] [l]) : W.cell? ⟨gv, 0, none⟩ = some x ∧ RB W x l := by
  obtain ⟨g, cap, e, _, _, _, hc⟩ := own_form h.row (by simp)
  injection e with e1 e2 e3
  injection e1 with e1
  injection e1 with e1
  subst e1
  exact ⟨hc 0 (by simp), (h.each 0 (by simp)).reads⟩
theorem LentOk.below {S : Nat → Prop} {W W' : World} {base top : Nat} {v : Value} {xs : List Value} {ps : List (List UInt8)} (h : LentOk W base top v xs ps) (ho : Only S W W') (hS : ∀ g, S g → g < base) : LentOk W' base top v xs ps :=
  ⟨own_only h.row ho fun g e hs => by have := (own_block h.row g e).1; have := hS g hs; omega, fun j hj => (h.each j hj).only ho fun g e hs => by
    obtain ⟨g', e', h1, _⟩ := (h.each j hj).block
    rw [e] at e'
    injection e' with e'
    have := hS g hs
    omega, h.apart, h.off⟩
end Go.Proofs.Ythkongkbefpilaa
