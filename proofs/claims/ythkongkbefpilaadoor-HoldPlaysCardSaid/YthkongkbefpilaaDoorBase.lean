/-
  Words, bytes, blocks of memory and what a call leaves alone: small laws for the walks of this seat. No program is loaded here.
-/
import Derived.WalkKit
import Derived.Lib.Hide
import Derived.Deep.Draws
import Derived.Test.YthkongkbefpilaaDoorSha
namespace Go.Proofs.YthkongkbefpilaaDoor
open Go.RowKit
/-- A word as a number. (A plain definition: the walk's simp does not look inside.) -/
def wd (x : BitVec 32) : Int := (x.toNat : Int)
/-- A byte as a number. -/
def by8 (c : UInt8) : Int := (c.toNat : Int)
theorem wd_ge (x : BitVec 32) : 0 ≤ wd x := by unfold wd; omega
theorem wd_lt (x : BitVec 32) : wd x < 4294967296 := by unfold wd; omega
theorem by8_ge (c : UInt8) : 0 ≤ by8 c := by unfold by8; omega
theorem by8_lt (c : UInt8) : by8 c < 256 := by
  unfold by8
  have := c.toNat_lt
  omega
theorem by8_inj {a b : UInt8} (h : by8 a = by8 b) : a = b := by
  unfold by8 at h
  exact UInt8.toNat_inj.1 (by omega)
theorem wd_inj {a b : BitVec 32} (h : wd a = wd b) : a = b := by
  unfold wd at h
  exact BitVec.eq_of_toNat_eq (by omega)
theorem u_ofInt (x : BitVec 32) : BitVec.ofInt 32 (wd x) = x := by
  unfold wd; rw [BitVec.ofInt_natCast]; simp
theorem u_wrap (x : BitVec 32) : IntKind.u32.wrap (x.toNat : Int) = wd x := by
  rw [IntKind.wrap_u32]; unfold wd; omega
theorem u_xor (x y : BitVec 32) : bits .xor .u32 (wd x) (wd y) = wd (x ^^^ y) := by
  show IntKind.u32.wrap ((BitVec.ofInt 32 _ ^^^ BitVec.ofInt 32 _).toNat : Int) = _
  rw [u_ofInt, u_ofInt]; exact u_wrap _
theorem u_and (x y : BitVec 32) : bits .and .u32 (wd x) (wd y) = wd (x &&& y) := by
  show IntKind.u32.wrap ((BitVec.ofInt 32 _ &&& BitVec.ofInt 32 _).toNat : Int) = _
  rw [u_ofInt, u_ofInt]; exact u_wrap _
theorem u_or (x y : BitVec 32) : bits .or .u32 (wd x) (wd y) = wd (x ||| y) := by
  show IntKind.u32.wrap ((BitVec.ofInt 32 _ ||| BitVec.ofInt 32 _).toNat : Int) = _
  rw [u_ofInt, u_ofInt]; exact u_wrap _
theorem u_add (x y : BitVec 32) : IntKind.u32.wrap (wd x + wd y) = wd (x + y) := by
  unfold wd; rw [IntKind.wrap_u32, BitVec.toNat_add]; omega
theorem u_shr (x : BitVec 32) (n : Nat) : wd x / 2 ^ n = wd (x >>> n) := by
  unfold wd; rw [BitVec.toNat_ushiftRight, Nat.shiftRight_eq_div_pow]; simp
theorem u_shl (x : BitVec 32) (n : Nat) : IntKind.u32.wrap (wd x * 2 ^ n) = wd (x <<< n) := by
  unfold wd; rw [IntKind.wrap_u32, BitVec.toNat_shiftLeft, Nat.shiftLeft_eq]; simp
theorem u_not (x : BitVec 32) : bits .xor .u32 (if IntKind.u32.signed = true then -1 else IntKind.u32.max) (wd x) = wd (~~~x) := by
  show IntKind.u32.wrap ((BitVec.ofInt 32 4294967295 ^^^ BitVec.ofInt 32 (wd x)).toNat : Int) = _
  have : BitVec.ofInt 32 4294967295 = BitVec.allOnes 32 := by decide
  rw [u_ofInt, u_wrap, this, BitVec.allOnes_xor]
theorem by_conv (c : UInt8) : IntKind.u32.wrap (by8 c) = wd (Sha.bwd c) := by
  have h := c.toNat_lt
  unfold by8 wd Sha.bwd
  rw [IntKind.wrap_u32, BitVec.toNat_ofNat]
  omega
theorem u_shl24 (x : BitVec 32) : IntKind.u32.wrap (wd x * (16777216 : Int)) = wd (x <<< 24) := u_shl x 24
theorem u_shl16 (x : BitVec 32) : IntKind.u32.wrap (wd x * (65536 : Int)) = wd (x <<< 16) := u_shl x 16
theorem u_shl8 (x : BitVec 32) : IntKind.u32.wrap (wd x * (256 : Int)) = wd (x <<< 8) := u_shl x 8
theorem u_shr3 (x : BitVec 32) : wd x / (8 : Int) = wd (x >>> 3) := u_shr x 3
theorem u_shr10 (x : BitVec 32) : wd x / (1024 : Int) = wd (x >>> 10) := u_shr x 10
def BC (l : List UInt8) : List Value := l.map fun c => Value.int .u8 (by8 c)
def WC (l : List (BitVec 32)) : List Value := l.map fun c => Value.int .u32 (wd c)
theorem BC_length (l : List UInt8) : (BC l).length = l.length := by simp [BC]
theorem WC_length (l : List (BitVec 32)) : (WC l).length = l.length := by simp [WC]
theorem BC_get (l : List UInt8) (i : Nat) (h : i < l.length) : (BC l)[i]? = some (.int .u8 (by8 (l.getD i 0))) := by
  simp [BC, h, List.getD]
theorem WC_get (l : List (BitVec 32)) (i : Nat) (h : i < l.length) : (WC l)[i]? = some (.int .u32 (wd (l.getD i 0))) := by
  simp [WC, h, List.getD]
theorem WC_set (l : List (BitVec 32)) (i : Nat) (x : BitVec 32) : (WC l).set i (.int .u32 (wd x)) = WC (l.set i x) := by
  simp [WC, List.map_set]
theorem BC_set (l : List UInt8) (i : Nat) (x : UInt8) : (BC l).set i (.int .u8 (by8 x)) = BC (l.set i x) := by
  simp [BC, List.map_set]
theorem BC_append (l m : List UInt8) : BC (l ++ m) = BC l ++ BC m := by simp [BC]
theorem BC_one (l : List UInt8) : ∀ v ∈ BC l, v.oneCell' = true := by
  intro v hv
  simp only [BC, List.mem_map] at hv
  obtain ⟨c, _, rfl⟩ := hv
  rfl
theorem WC_one (l : List (BitVec 32)) : ∀ v ∈ WC l, v.oneCell' = true := by
  intro v hv
  simp only [WC, List.mem_map] at hv
  obtain ⟨c, _, rfl⟩ := hv
  rfl
def Blk (w : World) (g : Nat) (t : TypeId) (cs : List Value) : Prop := w.heap[g]? = some (.cells cs.toArray t (0, 0))
section
variable {w w' : World} {g : Nat} {t : TypeId} {cs : List Value}
theorem Blk.lt (h : Blk w g t cs) : g < w.heap.size := (Array.getElem?_eq_some_iff.1 h).1
theorem Blk.cell (h : Blk w g t cs) (i : Nat) : w.cell? ⟨g, i, none⟩ = cs[i]? := by
  have := cell_of_row w g i cs.toArray t (0, 0) h
  simpa using this
theorem Blk.free (h : Blk w g t cs) (i : Nat) : w.frozen? ⟨g, i, none⟩ = false := by
  unfold Blk at h
  simp [World.frozen?, h]
theorem Blk.new (w : World) (t : TypeId) (cs : List Value) : Blk (w.alloc (.cells cs.toArray t)) w.heap.size t cs := heap_alloc_new w _
theorem Blk.alloc (h : Blk w g t cs) (o : Obj) : Blk (w.alloc o) g t cs := (Below.heap_alloc w o g h.lt).trans h
theorem Blk.drewN (h : Blk w g t cs) (n : Nat) : Blk (w.drewN n) g t cs := h
theorem Blk.drew (h : Blk w g t cs) : Blk w.drew g t cs := h
theorem Blk.set (h : Blk w g t cs) (i : Nat) (u : Value) : Blk (w.setCell ⟨g, i, none⟩ u) g t (cs.set i u) := by
  unfold Blk at h ⊢
  simp [World.setCell, Array.getElem?_modify, h]
theorem Blk.row (h : Blk w g t cs) (ds : List Value) : Blk (w.setRow g ds.toArray) g t ds := setRow_heap w g _ _ t _ h
theorem heap_setRow_far (w : World) (g k : Nat) (cs : Array Value) (h : k ≠ g) : (w.setRow g cs).heap[k]? = w.heap[k]? := by
  simp only [World.setRow, Array.getElem?_modify]
  rw [if_neg (fun e => h e.symm)]
theorem Blk.rowFar (h : Blk w g t cs) {g' : Nat} (hg : g ≠ g') (ds : Array Value) : Blk (w.setRow g' ds) g t cs := (heap_setRow_far w g' g ds hg).trans h
theorem Blk.far (h : Blk w g t cs) {p : Addr} (hp : g ≠ p.block) (u : Value) : Blk (w.setCell p u) g t cs := (Below.heap_setCell w p u g hp).trans h
end
structure Only (S : Nat → Prop) (w w' : World) : Prop where
  os : w'.os = w.os
  tape : w'.tape = w.tape
  output : w'.output = w.output
  size : w.heap.size ≤ w'.heap.size
  block : ∀ k, k < w.heap.size → ¬ S k → w'.heap[k]? = w.heap[k]?
section
variable {S T : Nat → Prop} {a w w' : World}
theorem Only.refl (S : Nat → Prop) (w : World) : Only S w w := ⟨rfl, rfl, rfl, Nat.le_refl _, fun _ _ _ => rfl⟩
theorem Only.trans (h : Only S a w) (k : Only T w w') (hT : ∀ i, T i → S i ∨ a.heap.size ≤ i) : Only S a w' :=
  ⟨k.os.trans h.os, k.tape.trans h.tape, k.output.trans h.output, Nat.le_trans h.size k.size, fun i hi hn =>
    (k.block i (Nat.lt_of_lt_of_le hi h.size) (fun ht => (hT i ht).elim hn (fun hle => absurd hi (Nat.not_lt.2 hle)))).trans (h.block i hi hn)⟩
theorem Only.then (h : Only S a w) (k : Only S w w') : Only S a w' := h.trans k fun _ => Or.inl
theorem Only.mono (h : Only S a w) (hS : ∀ i, i < a.heap.size → S i → T i) : Only T a w :=
  ⟨h.os, h.tape, h.output, h.size, fun i hi hn => h.block i hi (fun hs => hn (hS i hi hs))⟩
theorem Only.drewN (h : Only S a w) (n : Nat) : Only S a (w.drewN n) := ⟨h.os, h.tape, h.output, h.size, h.block⟩
theorem Only.drew (h : Only S a w) : Only S a w.drew := ⟨h.os, h.tape, h.output, h.size, h.block⟩
theorem Only.alloc (h : Only S a w) (o : Obj) : Only S a (w.alloc o) :=
  ⟨h.os, h.tape, h.output, Nat.le_trans h.size (by simp), fun i hi hn => (Below.heap_alloc w o i (Nat.lt_of_lt_of_le hi h.size)).trans (h.block i hi hn)⟩
theorem Only.setCell (h : Only S a w) {p : Addr} (hp : S p.block ∨ a.heap.size ≤ p.block) (u : Value) : Only S a (w.setCell p u) :=
  ⟨h.os, h.tape, h.output, by simpa [World.setCell] using h.size, fun i hi hn => (Below.heap_setCell w p u i (by
    rintro rfl
    rcases hp with hp | hp
    · exact hn hp
    · omega)).trans (h.block i hi hn)⟩
theorem Only.setRow (h : Only S a w) {g : Nat} (hp : S g ∨ a.heap.size ≤ g) (cs : Array Value) : Only S a (w.setRow g cs) :=
  ⟨h.os, h.tape, h.output, by rw [size_setRow]; exact h.size, fun i hi hn => (heap_setRow_far w g i cs (by
    rintro rfl
    rcases hp with hp | hp
    · exact hn hp
    · omega)).trans (h.block i hi hn)⟩
theorem Only.of_grown {row : Option Nat} (h : a.grownBy w row) (hr : ∀ k, row = some k → S k ∨ a.heap.size ≤ k) : Only S a w :=
  ⟨h.os, h.tape, h.output, h.size, fun i hi hn => h.block i hi (fun e => by
    rcases hr i e.symm with hs | hs
    · exact hn hs
    · omega)⟩
theorem Only.of_below {B : Nat} (h : Below B a w) (hB : ∀ k, k < a.heap.size → ¬ S k → k < B) : Only S a w :=
  ⟨h.os, h.tape, h.output, h.size, fun i hi hn => h.block i (hB i hi hn)⟩
theorem Only.below {B : Nat} (h : Only S a w) (hB : B ≤ a.heap.size) (hS : ∀ k, S k → B ≤ k) : Below B a w :=
  ⟨h.os, h.tape, h.output, h.size, fun i hi => h.block i (by omega) (fun hs => by have := hS i hs; omega)⟩
theorem Only.blk {g : Nat} {t : TypeId} {cs : List Value} (h : Only S a w) (hb : Blk a g t cs) (hg : ¬ S g) : Blk w g t cs := (h.block g hb.lt hg).trans hb
theorem Only.cell (h : Only S a w) {p : Addr} {v : Value} (hc : a.cell? p = some v) (hp : ¬ S p.block) : w.cell? p = some v :=
  (World.cell?_of_block (w := a) (h.block p.block (World.block_lt_of_cell? a p hc) hp)).trans hc
end
/-- The set of one block; no block. -/
def One (g : Nat) : Nat → Prop := fun k => k = g
def Nil : Nat → Prop := fun _ => False
theorem One.self (g : Nat) : One g g := rfl
/-- The block that a slice or a pointer leads to. -/
def blkOf : Value → Option Nat
  | .slice (some a) _ _ => some a.block
  | .pointer (some a) => some a.block
  | _ => none
/-- 'v' is a slice value that reads as the bytes 'bs'. -/
def RB (w : World) (v : Value) (bs : List UInt8) : Prop :=
  ∃ (A : Option Addr) (c : Nat), v = .slice A bs.length c ∧ bs.length ≤ c ∧
    (0 < bs.length → ∃ g o, A = some ⟨g, o, none⟩ ∧ ∀ j, j < bs.length → w.cell? ⟨g, o + j, none⟩ = some (.int .u8 (by8 (bs.getD j 0))))
section
variable {w w' : World} {v : Value} {bs : List UInt8}
theorem RB.keep (h : RB w v bs) (hk : ∀ g, blkOf v = some g → g < w.heap.size → w'.heap[g]? = w.heap[g]?) : RB w' v bs := by
  obtain ⟨A, c, rfl, hc, h⟩ := h
  refine ⟨A, c, rfl, hc, fun h0 => ?_⟩
  obtain ⟨g, o, rfl, hr⟩ := h h0
  refine ⟨g, o, rfl, fun j hj => ?_⟩
  have hlt := World.block_lt_of_cell? w _ (hr j hj)
  exact (World.cell?_of_block (w := w) (hk g rfl hlt)).trans (hr j hj)
theorem RB.only {S : Nat → Prop} (h : RB w v bs) (ho : Only S w w') (hS : ∀ g, blkOf v = some g → ¬ S g) : RB w' v bs :=
  h.keep fun g hg hlt => ho.block g hlt (hS g hg)
theorem RB.nil (w : World) (A : Option Addr) (c : Nat) : RB w (.slice A 0 c) [] := ⟨A, c, rfl, Nat.zero_le _, fun h => absurd h (by simp)⟩
/-- The rest behind k bytes: 's[k:]' as the model has it. -/
theorem RB.drop {A : Option Addr} {n c : Nat} (h : RB w (.slice A n c) bs) (k : Nat) (hk : k ≤ n) :
    RB w (.slice (if c = k then A else A.map (·.add k)) (n - k) (c - k)) (bs.drop k) := by
  obtain ⟨A', c', e, hc, h⟩ := h
  injection e with e1 e2 e3
  subst e1 e2 e3
  refine ⟨_, c - k, by rw [List.length_drop], by rw [List.length_drop]; omega, fun h0 => ?_⟩
  rw [List.length_drop] at h0
  obtain ⟨g, o, rfl, hr⟩ := h (by omega)
  rw [if_neg (by omega)]
  refine ⟨g, o + k, by simp only [Option.map_some, Addr.add]; split <;> simp_all, fun j hj => ?_⟩
  rw [List.length_drop] at hj
  have := hr (k + j) (by omega)
  rw [show o + k + j = o + (k + j) by omega, this]
  simp [List.getD]
theorem RB.form (h : RB w v bs) : ∃ A c, v = .slice A bs.length c ∧ bs.length ≤ c := by
  obtain ⟨A, c, hv, hc, _⟩ := h
  exact ⟨A, c, hv, hc⟩
theorem RB.alloc (h : RB w v bs) (o : Obj) : RB (w.alloc o) v bs := h.keep fun g _ hlt => Below.heap_alloc w o g hlt
theorem RB.drewN (h : RB w v bs) (n : Nat) : RB (w.drewN n) v bs := h.keep fun _ _ _ => rfl
theorem RB.drew (h : RB w v bs) : RB w.drew v bs := h
end
section
variable {P : Program}
theorem blkOf_map (A : Option Addr) (k n c n' c' : Nat) : blkOf (.slice (A.map (·.add k)) n c) = blkOf (.slice A n' c') := by
  cases A with
  | none => rfl
  | some a => simp only [Option.map_some, blkOf, Addr.add]; split <;> rfl
/-- 's[k:]'. -/
theorem cut_from (t e : TypeId) (kl : IntKind) (ht : P.underlying t = some (.slice e)) (hsz : (P.info? e).map (·.size) = some 1) {A : Option Addr} {c : Nat} {w : World} {bs : List UInt8} (h : RB w (.slice A bs.length c) bs) (k : Nat) (hk : k ≤ bs.length) :
    ∃ A', (∀ W : World, (Instr.slice t (.slice A bs.length c) (some (.int kl (k : Int))) none none).run P W = .ok (.slice A' (bs.drop k).length (c - k)) W) ∧ RB w (.slice A' (bs.drop k).length (c - k)) (bs.drop k) ∧
      blkOf (.slice A' (bs.drop k).length (c - k)) = blkOf (.slice A bs.length c) := by
  refine ⟨if c = k then A else A.map (·.add k), fun W => ?_, ?_, ?_⟩
  · obtain ⟨i1, hi, hs⟩ := Option.map_eq_some_iff.1 hsz
    have hel : P.elem t = e := by simp [Program.elem, ht]
    have hu : P.underlying t = some (.slice (P.elem t)) := by rw [hel]; exact ht
    rw [run_slice_l W t A bs.length c hu kl (k : Int) (Int.natCast_nonneg _) (by omega), hel]
    simp [sizeOf, typeInfo, hi, hs, sliced, Result.andThen]
  · have := h.drop k hk
    rwa [← List.length_drop] at this
  · by_cases hck : c = k
    · rw [if_pos hck]; cases A <;> rfl
    · rw [if_neg hck, blkOf_map]
end
end Go.Proofs.YthkongkbefpilaaDoor
