/-
  Bytes, blocks of memory, what a call leaves alone, slices that read as values, rows that grow: small laws for the walks of this seat. No function of the program is walked here.
-/
import Derived.WalkKit
import Derived.Lib.Hide
import Derived.Deep.Draws
import Derived.Deep.Onto
import Derived.Deep.RegionLaw
import Derived.BigQuiet
import Derived.Laws.BytesArg
import Derived.Deep.AppendLies
import Derived.Deep.DeepCutAuto
import Derived.Deep.LoopGhost
import Derived.Deep.MidRow
import Derived.Deep.QuietTactic
import Derived.Deep.RegionHeld3
import Derived.Laws.CopyOwn
import Derived.Lib.SmallJoins
import Derived.Orders
import Derived.StillTailTactics
import Derived.Stop.BytesEq
import Derived.WalkLawsBesides
import Derived.WalkSpells
import Derived.Test.YtkkjnembjlgiaaaProg
namespace Go.Proofs.Ytkkjnembjlgiaaa
open Go.RowKit

/-- A byte as a number. -/
def by8 (c : UInt8) : Int := (c.toNat : Int)
theorem by8_ge (c : UInt8) : 0 ≤ by8 c := by unfold by8; omega
theorem by8_lt (c : UInt8) : by8 c < 256 := by
  unfold by8
  have := c.toNat_lt
  omega
theorem by8_inj {a b : UInt8} (h : by8 a = by8 b) : a = b := by
  unfold by8 at h
  exact UInt8.toNat_inj.1 (by omega)
def BC (l : List UInt8) : List Value := l.map fun c => Value.int .u8 (by8 c)
theorem BC_length (l : List UInt8) : (BC l).length = l.length := by simp [BC]
theorem BC_get (l : List UInt8) (i : Nat) (h : i < l.length) : (BC l)[i]? = some (.int .u8 (by8 (l.getD i 0))) := by
  simp [BC, h, List.getD]
theorem BC_set (l : List UInt8) (i : Nat) (x : UInt8) : (BC l).set i (.int .u8 (by8 x)) = BC (l.set i x) := by
  simp [BC, List.map_set]
theorem BC_append (l m : List UInt8) : BC (l ++ m) = BC l ++ BC m := by simp [BC]
theorem BC_one (l : List UInt8) : ∀ v ∈ BC l, v.oneCell' = true := by
  intro v hv
  simp only [BC, List.mem_map] at hv
  obtain ⟨c, _, rfl⟩ := hv
  rfl
/-! ## A block that is known whole -/

def Blk (w : World) (g : Nat) (t : TypeId) (cs : List Value) : Prop := w.heap[g]? = some (.cells cs.toArray t (0, 0))
section
variable {w w' : World} {g : Nat} {t : TypeId} {cs : List Value}
theorem Blk.lt (h : Blk w g t cs) : g < w.heap.size := (Array.getElem?_eq_some_iff.1 h).1
theorem Blk.cell (h : Blk w g t cs) (i : Nat) : w.cell? ⟨g, i, none⟩ = cs[i]? := by
  have := cell_of_row w g i cs.toArray t (0, 0) h
  simpa using this
theorem Blk.free (h : Blk w g t cs) (i : Nat) : w.frozen? ⟨g, i, none⟩ = false := by
  unfold Blk at h
  simp [World.frozen?, h]
theorem Blk.new (w : World) (t : TypeId) (cs : List Value) : Blk (w.alloc (.cells cs.toArray t)) w.heap.size t cs := heap_alloc_new w _
theorem Blk.alloc (h : Blk w g t cs) (o : Obj) : Blk (w.alloc o) g t cs := (Below.heap_alloc w o g h.lt).trans h
theorem Blk.drewN (h : Blk w g t cs) (n : Nat) : Blk (w.drewN n) g t cs := h
theorem Blk.drew (h : Blk w g t cs) : Blk w.drew g t cs := h
theorem Blk.set (h : Blk w g t cs) (i : Nat) (u : Value) : Blk (w.setCell ⟨g, i, none⟩ u) g t (cs.set i u) := by
  unfold Blk at h ⊢
  simp [World.setCell, Array.getElem?_modify, h]
theorem Blk.row (h : Blk w g t cs) (ds : List Value) : Blk (w.setRow g ds.toArray) g t ds := setRow_heap w g _ _ t _ h
theorem heap_setRow_far (w : World) (g k : Nat) (cs : Array Value) (h : k ≠ g) : (w.setRow g cs).heap[k]? = w.heap[k]? := by
  simp only [World.setRow, Array.getElem?_modify]
  rw [if_neg (fun e => h e.symm)]
theorem Blk.rowFar (h : Blk w g t cs) {g' : Nat} (hg : g ≠ g') (ds : Array Value) : Blk (w.setRow g' ds) g t cs := (heap_setRow_far w g' g ds hg).trans h
theorem Blk.far (h : Blk w g t cs) {p : Addr} (hp : g ≠ p.block) (u : Value) : Blk (w.setCell p u) g t cs := (Below.heap_setCell w p u g hp).trans h
end

/-! ## What a call leaves alone: all blocks that were there but those of S -/

structure Only (S : Nat → Prop) (w w' : World) : Prop where
  os : w'.os = w.os
  tape : w'.tape = w.tape
  output : w'.output = w.output
  size : w.heap.size ≤ w'.heap.size
  block : ∀ k, k < w.heap.size → ¬ S k → w'.heap[k]? = w.heap[k]?

section
variable {S T : Nat → Prop} {a w w' : World}
theorem Only.refl (S : Nat → Prop) (w : World) : Only S w w := ⟨rfl, rfl, rfl, Nat.le_refl _, fun _ _ _ => rfl⟩
theorem Only.trans (h : Only S a w) (k : Only T w w') (hT : ∀ i, T i → S i ∨ a.heap.size ≤ i) : Only S a w' :=
  ⟨k.os.trans h.os, k.tape.trans h.tape, k.output.trans h.output, Nat.le_trans h.size k.size, fun i hi hn =>
    (k.block i (Nat.lt_of_lt_of_le hi h.size) (fun ht => (hT i ht).elim hn (fun hle => absurd hi (Nat.not_lt.2 hle)))).trans (h.block i hi hn)⟩
theorem Only.then (h : Only S a w) (k : Only S w w') : Only S a w' := h.trans k fun _ => Or.inl
theorem Only.mono (h : Only S a w) (hS : ∀ i, i < a.heap.size → S i → T i) : Only T a w :=
  ⟨h.os, h.tape, h.output, h.size, fun i hi hn => h.block i hi (fun hs => hn (hS i hi hs))⟩
theorem Only.drewN (h : Only S a w) (n : Nat) : Only S a (w.drewN n) := ⟨h.os, h.tape, h.output, h.size, h.block⟩
theorem Only.drew (h : Only S a w) : Only S a w.drew := ⟨h.os, h.tape, h.output, h.size, h.block⟩
theorem Only.alloc (h : Only S a w) (o : Obj) : Only S a (w.alloc o) :=
  ⟨h.os, h.tape, h.output, Nat.le_trans h.size (by simp), fun i hi hn => (Below.heap_alloc w o i (Nat.lt_of_lt_of_le hi h.size)).trans (h.block i hi hn)⟩
theorem Only.setCell (h : Only S a w) {p : Addr} (hp : S p.block ∨ a.heap.size ≤ p.block) (u : Value) : Only S a (w.setCell p u) :=
  ⟨h.os, h.tape, h.output, by simpa [World.setCell] using h.size, fun i hi hn => (Below.heap_setCell w p u i (by
    rintro rfl
    rcases hp with hp | hp
    · exact hn hp
    · omega)).trans (h.block i hi hn)⟩
theorem Only.setRow (h : Only S a w) {g : Nat} (hp : S g ∨ a.heap.size ≤ g) (cs : Array Value) : Only S a (w.setRow g cs) :=
  ⟨h.os, h.tape, h.output, by rw [size_setRow]; exact h.size, fun i hi hn => (heap_setRow_far w g i cs (by
    rintro rfl
    rcases hp with hp | hp
    · exact hn hp
    · omega)).trans (h.block i hi hn)⟩
theorem Only.of_grown {row : Option Nat} (h : a.grownBy w row) (hr : ∀ k, row = some k → S k ∨ a.heap.size ≤ k) : Only S a w :=
  ⟨h.os, h.tape, h.output, h.size, fun i hi hn => h.block i hi (fun e => by
    rcases hr i e.symm with hs | hs
    · exact hn hs
    · omega)⟩
theorem Only.of_below {B : Nat} (h : Below B a w) (hB : ∀ k, k < a.heap.size → ¬ S k → k < B) : Only S a w :=
  ⟨h.os, h.tape, h.output, h.size, fun i hi hn => h.block i (hB i hi hn)⟩
theorem Only.below {B : Nat} (h : Only S a w) (hB : B ≤ a.heap.size) (hS : ∀ k, S k → B ≤ k) : Below B a w :=
  ⟨h.os, h.tape, h.output, h.size, fun i hi => h.block i (by omega) (fun hs => by have := hS i hs; omega)⟩
theorem Only.blk {g : Nat} {t : TypeId} {cs : List Value} (h : Only S a w) (hb : Blk a g t cs) (hg : ¬ S g) : Blk w g t cs := (h.block g hb.lt hg).trans hb
theorem Only.cell (h : Only S a w) {p : Addr} {v : Value} (hc : a.cell? p = some v) (hp : ¬ S p.block) : w.cell? p = some v :=
  (World.cell?_of_block (w := a) (h.block p.block (World.block_lt_of_cell? a p hc) hp)).trans hc
end
/-- The set of one block; no block. -/
def One (g : Nat) : Nat → Prop := fun k => k = g
def Nil : Nat → Prop := fun _ => False
theorem One.self (g : Nat) : One g g := rfl

/-! ## A slice of bytes that reads as a list -/

/-- The block that a slice or a pointer leads to. -/
def blkOf : Value → Option Nat
  | .slice (some a) _ _ => some a.block
  | .pointer (some a) => some a.block
  | _ => none

/-- 'v' is a slice value that reads as the bytes 'bs'. -/
def RB (w : World) (v : Value) (bs : List UInt8) : Prop :=
  ∃ (A : Option Addr) (c : Nat), v = .slice A bs.length c ∧ bs.length ≤ c ∧
    (0 < bs.length → ∃ g o, A = some ⟨g, o, none⟩ ∧ ∀ j, j < bs.length → w.cell? ⟨g, o + j, none⟩ = some (.int .u8 (by8 (bs.getD j 0))))
section
variable {w w' : World} {v : Value} {bs : List UInt8}
theorem RB.keep (h : RB w v bs) (hk : ∀ g, blkOf v = some g → g < w.heap.size → w'.heap[g]? = w.heap[g]?) : RB w' v bs := by
  obtain ⟨A, c, rfl, hc, h⟩ := h
  refine ⟨A, c, rfl, hc, fun h0 => ?_⟩
  obtain ⟨g, o, rfl, hr⟩ := h h0
  refine ⟨g, o, rfl, fun j hj => ?_⟩
  have hlt := World.block_lt_of_cell? w _ (hr j hj)
  exact (World.cell?_of_block (w := w) (hk g rfl hlt)).trans (hr j hj)
theorem RB.only {S : Nat → Prop} (h : RB w v bs) (ho : Only S w w') (hS : ∀ g, blkOf v = some g → ¬ S g) : RB w' v bs :=
  h.keep fun g hg hlt => ho.block g hlt (hS g hg)
theorem RB.nil (w : World) (A : Option Addr) (c : Nat) : RB w (.slice A 0 c) [] := ⟨A, c, rfl, Nat.zero_le _, fun h => absurd h (by simp)⟩
/-- The rest behind k bytes: 's[k:]' as the model has it. -/
theorem RB.drop {A : Option Addr} {n c : Nat} (h : RB w (.slice A n c) bs) (k : Nat) (hk : k ≤ n) :
    RB w (.slice (if c = k then A else A.map (·.add k)) (n - k) (c - k)) (bs.drop k) := by
  obtain ⟨A', c', e, hc, h⟩ := h
  injection e with e1 e2 e3
  subst e1 e2 e3
  refine ⟨_, c - k, by rw [List.length_drop], by rw [List.length_drop]; omega, fun h0 => ?_⟩
  rw [List.length_drop] at h0
  obtain ⟨g, o, rfl, hr⟩ := h (by omega)
  rw [if_neg (by omega)]
  refine ⟨g, o + k, by simp only [Option.map_some, Addr.add]; split <;> simp_all, fun j hj => ?_⟩
  rw [List.length_drop] at hj
  have := hr (k + j) (by omega)
  rw [show o + k + j = o + (k + j) by omega, this]
  simp [List.getD]
theorem RB.form (h : RB w v bs) : ∃ A c, v = .slice A bs.length c ∧ bs.length ≤ c := by
  obtain ⟨A, c, hv, hc, _⟩ := h
  exact ⟨A, c, hv, hc⟩
theorem RB.alloc (h : RB w v bs) (o : Obj) : RB (w.alloc o) v bs := h.keep fun g _ hlt => Below.heap_alloc w o g hlt
theorem RB.drewN (h : RB w v bs) (n : Nat) : RB (w.drewN n) v bs := h.keep fun _ _ _ => rfl
theorem RB.drew (h : RB w v bs) : RB w.drew v bs := h
end
section
variable {P : Program}
theorem blkOf_map (A : Option Addr) (k n c n' c' : Nat) : blkOf (.slice (A.map (·.add k)) n c) = blkOf (.slice A n' c') := by
  cases A with
  | none => rfl
  | some a => simp only [Option.map_some, blkOf, Addr.add]; split <;> rfl
/-- 's[k:]'. -/
theorem cut_from (t e : TypeId) (kl : IntKind) (ht : P.underlying t = some (.slice e)) (hsz : (P.info? e).map (·.size) = some 1) {A : Option Addr} {c : Nat} {w : World} {bs : List UInt8} (h : RB w (.slice A bs.length c) bs) (k : Nat) (hk : k ≤ bs.length) :
    ∃ A', (∀ W : World, (Instr.slice t (.slice A bs.length c) (some (.int kl (k : Int))) none none).run P W = .ok (.slice A' (bs.drop k).length (c - k)) W) ∧ RB w (.slice A' (bs.drop k).length (c - k)) (bs.drop k) ∧
      blkOf (.slice A' (bs.drop k).length (c - k)) = blkOf (.slice A bs.length c) := by
  refine ⟨if c = k then A else A.map (·.add k), fun W => ?_, ?_, ?_⟩
  · obtain ⟨i1, hi, hs⟩ := Option.map_eq_some_iff.1 hsz
    have hel : P.elem t = e := by simp [Program.elem, ht]
    have hu : P.underlying t = some (.slice (P.elem t)) := by rw [hel]; exact ht
    rw [run_slice_l W t A bs.length c hu kl (k : Int) (Int.natCast_nonneg _) (by omega), hel]
    simp [sizeOf, typeInfo, hi, hs, sliced, Result.andThen]
  · have := h.drop k hk
    rwa [← List.length_drop] at this
  · by_cases hck : c = k
    · rw [if_pos hck]; cases A <;> rfl
    · rw [if_neg hck, blkOf_map]
end
theorem info_byte : (Try.prog.info? 5).map (fun i => (i.zero, i.size, i.bytes)) = some (some (.int .u8 0), 1, 1) := by kernel_rfl
/-- Forget how a world was made: keep what is known of it. -/
theorem wp_gen {P : Program} {c : Code} {Q : Exit → Act → World → Prop} {a : Act} {W : World} (F : World → Prop) (hF : F W) (h : ∀ w1, F w1 → Code.wp P c Q a w1) : Code.wp P c Q a W := h W hF
/-- An append whose run is known. -/
theorem wpList_append_run {P : Program} {w : World} {ops : Array Oper} {rest : List Oper} {o : Oper} {a : Act} {Q : Exit → Act → World → Prop} (hgd : o.guard = none) (s x : Operand) (t u : TypeId)
    (ho : o.op = .call { callee := .builtin .append, args := #[s, x], argTypes := #[t, u] }) (vs vx : Value) (hs : a.eval s = vs) (hx : a.eval x = vx) {v' : Value} {w' : World}
    (hrun : (Builtin.append_ #[t, u] o.type #[vs, vx]).run P w = .ok v' w') (h : wpList P ops Q rest (a.put o.dst v') w') : wpList P ops Q (o :: rest) a w :=
  wpList_plain hgd fun _ hK => by
    unfold Oper.wp execOp
    simp only [ho, resolve, invoke, builtin, Sem.run_bind, Sem.run_pure, Result.andThen_ok, List.map_toArray, List.map_cons, List.map_nil, hs, hx, hrun]
    exact hK _ _ h
theorem by8_ofNat (x : Nat) : by8 (UInt8.ofNat x) = (x : Int) % 256 := by
  unfold by8
  rw [UInt8.toNat_ofNat']
  omega
theorem RB.block {w : World} {v : Value} {bs : List UInt8} (h : RB w v bs) (h0 : 0 < bs.length) : ∃ g, blkOf v = some g ∧ g < w.heap.size := by
  obtain ⟨A, c, rfl, _, h⟩ := h
  obtain ⟨g, o, rfl, hr⟩ := h h0
  exact ⟨g, rfl, World.block_lt_of_cell? w _ (hr 0 h0)⟩
theorem RB.ne {w : World} {v : Value} {bs : List UInt8} (h : RB w v bs) (h0 : 0 < bs.length) {g : Nat} (hg : w.heap.size ≤ g) : blkOf v ≠ some g := by
  obtain ⟨g', e, hlt⟩ := h.block h0
  rw [e]
  simp
  omega
/-- 'v' is a slice that reads as the values vs. -/
def RV (w : World) (v : Value) (vs : List Value) : Prop :=
  ∃ (A : Option Addr) (c : Nat), v = .slice A vs.length c ∧ vs.length ≤ c ∧ (0 < vs.length → ∃ g o, A = some ⟨g, o, none⟩ ∧ ∀ j, j < vs.length → w.cell? ⟨g, o + j, none⟩ = some (vs.getD j undef))
/-- A slice of slices of bytes. -/
structure Parts (w : World) (v : Value) (vs : List Value) (ps : List (List UInt8)) : Prop where
  row : RV w v vs
  len : vs.length = ps.length
  each : ∀ j, j < ps.length → RB w (vs.getD j undef) (ps.getD j [])
theorem RV.only {w w' : World} {v : Value} {vs : List Value} {S : Nat → Prop} (h : RV w v vs) (ho : Only S w w') (hS : ∀ g, g < w.heap.size → blkOf v = some g → ¬ S g) : RV w' v vs := by
  obtain ⟨A, c, rfl, hc, h⟩ := h
  refine ⟨A, c, rfl, hc, fun h0 => ?_⟩
  obtain ⟨g, o, rfl, hr⟩ := h h0
  exact ⟨g, o, rfl, fun j hj => ho.cell (hr j hj) (hS g (World.block_lt_of_cell? w _ (hr j hj)) rfl)⟩
/-- What stays readable while nothing old is written. -/
theorem Parts.only {w w' : World} {v : Value} {vs : List Value} {ps : List (List UInt8)} (h : Parts w v vs ps) (ho : Only Nil w w') : Parts w' v vs ps :=
  ⟨h.row.only ho fun _ _ _ => id, h.len, fun j hj => (h.each j hj).only ho fun _ _ => id⟩
/-! ## A slice of bytes as a string -/
def str (bs : List UInt8) : ByteArray := ⟨bs.toArray⟩
theorem strOfNums_by8 (bs : List UInt8) : strOfNums (bs.map by8) = str bs := by
  unfold strOfNums str by8
  rw [List.map_map]
  congr 2
  conv => rhs; rw [← List.map_id bs]
  apply List.map_congr_left
  intro c _
  exact UInt8.toNat_inj.1 (by
    show (UInt8.ofNat ((c.toNat : Int)).toNat).toNat = c.toNat
    rw [Int.toNat_natCast, UInt8.toNat_ofNat']
    exact Nat.mod_eq_of_lt c.toNat_lt)
theorem str_of {P : Program} {w : World} {src e dst : TypeId} (hs : P.underlying src = some (.slice e)) (he : P.underlying e = some (.int .u8)) (hd : P.underlying dst = some .string) {v : Value} {bs : List UInt8} (h : RB w v bs) :
    (convert src dst v).run P w = .ok (.string (str bs)) w := by
  obtain ⟨A, c, rfl, hc, hr⟩ := h
  by_cases h0 : 0 < bs.length
  · obtain ⟨g, o, rfl, hcell⟩ := hr h0
    rw [← strOfNums_by8]
    refine run_convert_bytes_arg w src e hs he g o bs.length c (bs.map by8) (by simp) (fun i hi => ?_) dst hd
    rw [hcell i hi]
    simp [List.getD, hi]
  · obtain rfl : bs = [] := List.eq_nil_of_length_eq_zero (by omega)
    rw [run_convert_bytes_string w src dst e _ _ _ hs he hd]
    cases A with
    | none => simp [Conv.bytesToString, str]; rfl
    | some a =>
      exact run_bytesToString w a 0 c [] (by rfl)

/-! ## A row of bytes of the call's own -/
def OB (w : World) (base : Nat) (v : Value) (bs : List UInt8) : Prop := w.ownsRow base 5 1 v bs.length (BC bs)
theorem OB.reads {w : World} {base : Nat} {v : Value} {bs : List UInt8} (h : OB w base v bs) : RB w v bs := by
  rcases h.2 with ⟨rfl, h0⟩ | ⟨g, cap, cur, rfl, _, _, hn, _⟩
  · exact ⟨none, 0, by rw [h0], by omega, fun h => absurd h (by omega)⟩
  · refine ⟨some ⟨g, 0, none⟩, cap, rfl, hn, fun _ => ⟨g, 0, rfl, fun j hj => ?_⟩⟩
    have := World.ownsRow.cells h (g := g) rfl j _ (BC_get bs j hj)
    rwa [Addr.add_mid] at this
theorem OB.nil (w : World) (base : Nat) : OB w base (.slice none 0 0) [] := ⟨rfl, .inl ⟨rfl, rfl⟩⟩
theorem OB.only {w w' : World} {base : Nat} {v : Value} {bs : List UInt8} {S : Nat → Prop} (h : OB w base v bs) (ho : Only S w w') (hS : ∀ g, v.ownBlock = some g → ¬ S g) : OB w' base v bs := by
  obtain ⟨h1, h2⟩ := h
  refine ⟨h1, ?_⟩
  rcases h2 with h2 | ⟨g, cap, cur, rfl, hg, hh, r⟩
  · exact .inl h2
  · exact .inr ⟨g, cap, cur, rfl, hg, (ho.block g (Array.getElem?_eq_some_iff.1 hh).1 (hS g rfl)).trans hh, r⟩

theorem news_block {w : World} {g : Nat} {t : TypeId} {cs : List Value} (h : Blk w g t cs) : ∀ j u, cs[j]? = some u → w.cell? ((⟨g, 0, none⟩ : Addr).add j) = some u := by
  intro j u hu
  rw [Addr.add_mid, Nat.zero_add, h.cell]
  exact hu

section
variable {P : Program} {w : World}
/-- An append to a row of the call's own: what it reads as; where it lies; what else keeps. -/
structure Grew (w w' : World) (base : Nat) (e : TypeId) (v : Value) (n m : Nat) (xs news : List Value) (g cap : Nat) : Prop where
  own : w'.ownsRow base e 1 (.slice (some ⟨g, 0, none⟩) (n + m) cap) (n + m) (xs ++ news)
  grown : w.grownBy w' v.ownBlock
  at' : v.ownBlock = some g ∨ g = w.heap.size
  old : ∀ (g0 j : Nat) (u : Value), v.ownBlock = some g0 → xs[j]? = some u → w'.cell? ⟨g0, j, none⟩ = some u
theorem run_append_row (base : Nat) (t ty e : TypeId) (i : TypeInfo) (z : Value) (bytes : Nat) (ht : P.underlying t = some (.slice e)) (hi : P.info? e = some i) (hz : i.zero = some z)
    (hsize : i.size = 1) (hby : i.bytes = bytes) (hzs : z.cells.size = 1)
    (v : Value) (n : Nat) (xs : List Value) (hown : w.ownsRow base e 1 v n xs)
    (a : Addr) (m c : Nat) (news : List Value) (hl : news.length = m) (hnews : ∀ j u, news[j]? = some u → w.cell? (a.add j) = some u) (h1 : ∀ u ∈ news, u.oneCell' = true)
    (hm : 0 < m) (h63 : n + m ≤ maxLen) (hbytes : (n + m) * bytes ≤ 140737488355328) (hbase : base ≤ w.heap.size) :
    ∃ g cap w', (Builtin.append_ #[t, t] ty #[v, .slice (some a) m c]).run P w = .ok (.slice (some ⟨g, 0, none⟩) (n + m) cap) w' ∧ Grew w w' base e v n m xs news g cap := by
  rcases hown.2 with ⟨rfl, rfl⟩ | ⟨g0, cap0, cur, rfl, hb, hg, hnc, hcm, hcs, htake⟩
  · obtain ⟨g, cap, w', hr, h2, h3, h4, _⟩ := run_append_lies (P := P) w t ty base e i z 1 bytes ht hi hz hsize hby hzs (by omega) _ 0 xs hown a m c news (by simpa using hl) hnews h1 hm h63 hbytes hbase _ rfl
    exact ⟨g, cap, w', hr, h2, h3, h4, fun g0 j u h => by cases h⟩
  · by_cases hfit : n + m ≤ cap0
    · obtain ⟨w', hr, h2, h3⟩ := run_append_fits (P := P) w base t ty e i 1 ht hi hsize g0 n cap0 xs hown a m c news (by simpa using hl) hnews h1 hfit
      refine ⟨g0, cap0, w', hr, h2, h3, .inl rfl, fun g1 j u hg1 hu => ?_⟩
      obtain rfl : g0 = g1 := Option.some.inj hg1
      have hj : j < xs.length := (List.getElem?_eq_some_iff.1 hu).1
      have := World.ownsRow.cells h2 (g := g0) rfl j u (by rw [List.getElem?_append_left hj]; exact hu)
      rwa [Addr.add_mid, Nat.zero_add] at this
    · have hc := fun j u hu => World.ownsRow.cells hown (g := g0) rfl j u hu
      obtain ⟨v', w', hr, h2, h3⟩ := run_append_arg_grows (P := P) w t ty e i z 1 bytes ht hi hz hsize hby hzs (by omega) ⟨g0, 0, none⟩ n cap0 xs hown.1 hc a m c news (by simpa using hl) hnews (by omega) h63 hbytes
      obtain ⟨g, cap, rfl, hgb, hlt⟩ := h2.form (by omega)
      have hlow : ∀ k, k < w.heap.size → w'.heap[k]? = w.heap[k]? := fun k hk => h3.block k hk (by simp)
      obtain ⟨v2, w2, hr2, h2a, h2b, _, h2d⟩ := run_append_own_at (P := P) w base t ty e i z 1 bytes ht hi hz hsize hby hzs (by omega) _ n xs hown a m c news (by simpa using hl) hnews h1 h63 hbytes hbase
      rw [hr] at hr2
      injection hr2 with e1 e2
      subst e1 e2
      have hg0 : g0 < w.heap.size := (Array.getElem?_eq_some_iff.1 hg).1
      refine ⟨g, cap, w', hr, h2a, h2b, ?_, fun g1 j u hg1 hu => ?_⟩
      · rcases h2d with h | h
        · exact .inl h.symm
        · exact .inr (Option.some.inj h)
      · obtain rfl : g0 = g1 := Option.some.inj hg1
        have := World.ownsRow.cells hown (g := g0) rfl j u hu
        rw [Addr.add_mid, Nat.zero_add] at this
        exact (World.cell?_of_block (w := w) (hlow g0 hg0)).trans this
theorem step_append_row {ops : Array Oper} {o : Oper} {a : Act} {K : Act → World → Prop} {Q : Exit → Act → World → Prop} {E : Prop} (hgd : o.guard = none) (s x : Operand) (t : TypeId)
    (ho : o.op = .call { callee := .builtin .append, args := #[s, x], argTypes := #[t, t] })
    (base : Nat) (e : TypeId) (i : TypeInfo) (z : Value) (bytes : Nat) (ht : P.underlying t = some (.slice e)) (hi : P.info? e = some i) (hz : i.zero = some z)
    (hsize : i.size = 1) (hby : i.bytes = bytes) (hzs : z.cells.size = 1)
    (v : Value) (n : Nat) (xs : List Value) (hs : a.eval s = v) (hown : w.ownsRow base e 1 v n xs)
    (ad : Addr) (m c : Nat) (news : List Value) (hx : a.eval x = .slice (some ad) m c) (hl : news.length = m) (hnews : ∀ j u, news[j]? = some u → w.cell? (ad.add j) = some u) (h1 : ∀ u ∈ news, u.oneCell' = true)
    (hm : 0 < m) (h63 : n + m ≤ maxLen) (hbytes : (n + m) * bytes ≤ 140737488355328) (hbase : base ≤ w.heap.size)
    (h : ∀ g cap w', Grew w w' base e v n m xs news g cap → K (a.put o.dst (.slice (some ⟨g, 0, none⟩) (n + m) cap)) w') :
    if Region.wanted o (yielded ops a.tmps) = true then Oper.wp P o a w K Q else E := by
  rw [if_pos (by simp [Region.wanted, hgd])]
  obtain ⟨g, cap, w', hrun, r⟩ := run_append_row (P := P) (w := w) base t o.type e i z bytes ht hi hz hsize hby hzs v n xs hown ad m c news hl hnews h1 hm h63 hbytes hbase
  unfold Oper.wp
  simp [execOp, ho, resolve, invoke, builtin, hs, hx, hrun, Result.andThen]
  exact h g cap w' r
theorem wpList_append_row {ops : Array Oper} {rest : List Oper} {o : Oper} {a : Act} {Q : Exit → Act → World → Prop} (hgd : o.guard = none) (s x : Operand) (t : TypeId)
    (ho : o.op = .call { callee := .builtin .append, args := #[s, x], argTypes := #[t, t] })
    (base : Nat) (e : TypeId) (i : TypeInfo) (z : Value) (bytes : Nat) (ht : P.underlying t = some (.slice e)) (hi : P.info? e = some i) (hz : i.zero = some z)
    (hsize : i.size = 1) (hby : i.bytes = bytes) (hzs : z.cells.size = 1)
    (v : Value) (n : Nat) (xs : List Value) (hs : a.eval s = v) (hown : w.ownsRow base e 1 v n xs)
    (ad : Addr) (m c : Nat) (news : List Value) (hx : a.eval x = .slice (some ad) m c) (hl : news.length = m) (hnews : ∀ j u, news[j]? = some u → w.cell? (ad.add j) = some u) (h1 : ∀ u ∈ news, u.oneCell' = true)
    (hm : 0 < m) (h63 : n + m ≤ maxLen) (hbytes : (n + m) * bytes ≤ 140737488355328) (hbase : base ≤ w.heap.size)
    (h : ∀ g cap w', Grew w w' base e v n m xs news g cap → wpList P ops Q rest (a.put o.dst (.slice (some ⟨g, 0, none⟩) (n + m) cap)) w') : wpList P ops Q (o :: rest) a w := by
  refine wpList_plain hgd fun _ hK => ?_
  obtain ⟨g, cap, w', hrun, r⟩ := run_append_row (P := P) (w := w) base t o.type e i z bytes ht hi hz hsize hby hzs v n xs hown ad m c news hl hnews h1 hm h63 hbytes hbase
  unfold Oper.wp
  simp [execOp, ho, resolve, invoke, builtin, hs, hx, hrun, Result.andThen]
  exact hK _ _ (h g cap w' r)
end

/-! ## What such a row is, whatever it holds -/
section
variable {w wr w1 w2 : World} {base : Nat} {e : TypeId} {v : Value} {n m : Nat} {xs news : List Value} {g cap : Nat}
theorem own_block (h : w.ownsRow base e 1 v n xs) : ∀ k, v.ownBlock = some k → base ≤ k ∧ k < w.heap.size := by
  intro k hk
  rcases h.2 with ⟨rfl, _⟩ | ⟨g, cap, cur, rfl, hg, hh, _⟩
  · cases hk
  · obtain rfl : g = k := Option.some.inj hk
    exact ⟨hg, (Array.getElem?_eq_some_iff.1 hh).1⟩
theorem own_blkOf (h : w.ownsRow base e 1 v n xs) : blkOf v = v.ownBlock := by
  rcases h.2 with ⟨rfl, _⟩ | ⟨g, cap, cur, rfl, _⟩ <;> rfl
theorem own_form (h : w.ownsRow base e 1 v n xs) (hn : 0 < n) : ∃ g cap, v = .slice (some ⟨g, 0, none⟩) n cap ∧ n ≤ cap ∧ base ≤ g ∧ g < w.heap.size ∧ ∀ j, j < n → w.cell? ⟨g, j, none⟩ = some (xs.getD j undef) := by
  rcases h.2 with ⟨_, h0⟩ | ⟨g, cap, cur, rfl, hb, hh, hc, _⟩
  · omega
  · refine ⟨g, cap, rfl, hc, hb, (Array.getElem?_eq_some_iff.1 hh).1, fun j hj => ?_⟩
    have hl : j < xs.length := by have := h.1; omega
    have := World.ownsRow.cells h (g := g) rfl j xs[j] (List.getElem?_eq_getElem hl)
    rw [Addr.add_mid, Nat.zero_add] at this
    rw [this]
    simp [List.getD, hl]
theorem own_only {S : Nat → Prop} (h : w.ownsRow base e 1 v n xs) (ho : Only S w w1) (hS : ∀ g, v.ownBlock = some g → ¬ S g) : w1.ownsRow base e 1 v n xs := by
  obtain ⟨h1, h2⟩ := h
  refine ⟨h1, ?_⟩
  rcases h2 with h2 | ⟨g, cap, cur, rfl, hg, hh, r⟩
  · exact .inl h2
  · exact .inr ⟨g, cap, cur, rfl, hg, (ho.block g (Array.getElem?_eq_some_iff.1 hh).1 (hS g rfl)).trans hh, r⟩
theorem own_reads (h : w.ownsRow base e 1 v n xs) : RV w v xs := by
  have hl : xs.length = n := by simpa using h.1
  by_cases h0 : 0 < n
  · obtain ⟨g, cap, rfl, hc, _, _, hcell⟩ := own_form h h0
    exact ⟨some ⟨g, 0, none⟩, cap, by rw [hl], by omega, fun _ => ⟨g, 0, rfl, fun j hj => by rw [Nat.zero_add]; exact hcell j (by omega)⟩⟩
  · rcases h.2 with ⟨rfl, hn⟩ | ⟨g, cap, cur, rfl, hb, hh, hc, _⟩
    · exact ⟨none, 0, by rw [hl, hn], by omega, fun h => absurd h (by omega)⟩
    · exact ⟨some ⟨g, 0, none⟩, cap, by rw [hl], by omega, fun h => absurd h (by omega)⟩
/-- From a world that is 'wr' and more. -/
theorem grew_only (hg : Grew w1 w2 base e v n m xs news g cap) (h : wr.ownsRow base e 1 v n xs) (ho : Only Nil w wr) (h1 : Only Nil wr w1) (hb : w.heap.size ≤ base) : Only Nil w w2 ∧ (∀ k t cs, k < base → Blk wr k t cs → Blk w2 k t cs) := by
  have hS : ∀ k, v.ownBlock = some k → base ≤ k := fun k hk => (own_block h k hk).1
  refine ⟨(ho.then h1).trans (Only.of_grown (S := fun k => base ≤ k) hg.grown fun k hk => .inl (hS k hk)) fun i hi => .inr (Nat.le_trans hb hi), fun k t cs hk hB => ?_⟩
  exact (Only.of_grown (S := fun k => base ≤ k) hg.grown fun k hk => .inl (hS k hk)).blk (h1.blk hB id) (by omega)
theorem grew_cell (hg : Grew w1 w2 base e v n m xs news g cap) (h : wr.ownsRow base e 1 v n xs) {p : Addr} {u : Value} (hp : p.block < base) (hc : w1.cell? p = some u) : w2.cell? p = some u :=
  (Only.of_grown (S := fun k => base ≤ k) hg.grown fun k hk => .inl (own_block h k hk).1).cell hc (by omega)
end
theorem RB.cut {w : World} {A : Option Addr} {c : Nat} {bs : List UInt8} (h : RB w (.slice A bs.length c) bs) {i k : Nat} (hi : i ≤ k) (hk : k ≤ bs.length) : RB w (sliced A i k c 1) ((bs.take k).drop i) := by
  obtain ⟨A', c', e, hc, hr⟩ := h
  injection e with e1 e2 e3
  subst e1 e3
  have hl : ((bs.take k).drop i).length = k - i := by rw [List.length_drop, List.length_take]; omega
  unfold sliced
  by_cases hci : c = i
  · refine ⟨_, c - i, by rw [hl], by rw [hl]; omega, fun h0 => absurd h0 (by rw [hl]; omega)⟩
  · refine ⟨_, c - i, by rw [hl], by rw [hl]; omega, fun h0 => ?_⟩
    rw [hl] at h0
    obtain ⟨g, o, rfl, hcell⟩ := hr (by omega)
    refine ⟨g, o + i, ?_, fun j hj => ?_⟩
    · simp [hci, Addr.add_mid]
    · rw [hl] at hj
      rw [Nat.add_assoc, hcell (i + j) (by omega)]
      simp [List.getD, List.getElem?_take_of_lt (show i + j < k by omega)]
theorem slice_bytes_h {A : Option Addr} {n c k : Nat} (hk : k ≤ c) (W : World) : (Instr.slice 39 (.slice A n c) none (some (.int .i64 (k : Int))) none).run Try.prog W = .ok (sliced A 0 k c 1) W := by
  obtain ⟨ib, hib, _, hbs, _⟩ := info_parts info_byte
  have hel : Try.prog.elem 39 = 5 := by simp [Program.elem, Try.underlying39]
  rw [run_slice_h W 39 A n c (by rw [hel]; exact Try.underlying39) .i64 k (by omega) (by omega), hel]
  simp [sizeOf, typeInfo, hib, hbs, Result.andThen]
theorem slice_bytes_l {A : Option Addr} {n c k : Nat} (hk : k ≤ n) (W : World) : (Instr.slice 39 (.slice A n c) (some (.int .i64 (k : Int))) none none).run Try.prog W = .ok (sliced A k n c 1) W := by
  obtain ⟨ib, hib, _, hbs, _⟩ := info_parts info_byte
  have hel : Try.prog.elem 39 = 5 := by simp [Program.elem, Try.underlying39]
  rw [run_slice_l W 39 A n c (by rw [hel]; exact Try.underlying39) .i64 k (by omega) (by omega), hel]
  simp [sizeOf, typeInfo, hib, hbs, Result.andThen]
theorem slice_bytes_lh {A : Option Addr} {n c i k : Nat} (hi : i ≤ k) (hk : k ≤ c) (W : World) : (Instr.slice 39 (.slice A n c) (some (.int .i64 (i : Int))) (some (.int .i64 (k : Int))) none).run Try.prog W = .ok (sliced A i k c 1) W := by
  obtain ⟨ib, hib, _, hbs, _⟩ := info_parts info_byte
  have hel : Try.prog.elem 39 = 5 := by simp [Program.elem, Try.underlying39]
  rw [run_slice_lh W 39 A n c (by rw [hel]; exact Try.underlying39) .i64 .i64 i k (by omega) (by omega) (by omega), hel]
  simp [sizeOf, typeInfo, hib, hbs, Result.andThen]
theorem wpList_load_wanted {P : Program} {ops : Array Oper} {rest : List Oper} {o : Oper} {a : Act} {w : World} {Q : Exit → Act → World → Prop} (hw : Region.wanted o (yielded ops a.tmps) = true) (ty : TypeId) (x : Operand) (ho : o.op = .load ty x)
    (g : Nat) (hx : a.eval x = .pointer (some ⟨g, 0, none⟩)) (t : TypeId) (cs : Array Value) (fr : Nat × Nat) (d : TypeDesc) (hg : w.heap[g]? = some (.cells cs t fr))
    (hu : P.underlying ty = some d) (hd : (match d with | .struct _ | .array _ _ => true | _ => false) = true) (hi : (P.info? ty).map (·.size) = some cs.size)
    (h : wpList P ops Q rest (a.put o.dst (.agg cs)) w) : wpList P ops Q (o :: rest) a w := by
  unfold wpList
  rw [if_pos hw]
  exact .inl (wp_load_row ty x ho g hx t cs fr d hg hu hd hi h)
theorem RB_row {W : World} {g : Nat} {bs : List UInt8} {fr : Nat × Nat} {t : TypeId} (h : W.heap[g]? = some (.cells (BC bs).toArray t fr)) (n : Nat) (hn : bs.length ≤ n := by decide) : RB W (.slice (some ⟨g, 0, none⟩) bs.length n) bs :=
  ⟨_, n, rfl, hn, fun _ => ⟨g, 0, rfl, fun j hj => by rw [Nat.zero_add, cell_of_row W g j _ _ _ h, List.getElem?_toArray, BC_get _ _ hj]⟩⟩
theorem row_alloc {W : World} {g : Nat} {x : Obj} (h : W.heap[g]? = some x) (o : Obj) : (W.alloc o).heap[g]? = some x := (Below.heap_alloc W o g (Array.getElem?_eq_some_iff.1 h).1).trans h
theorem parts_nil (w : World) (A : Option Addr) (c : Nat) : Parts w (.slice A 0 c) [] [] := ⟨⟨A, c, rfl, Nat.zero_le _, fun h => absurd h (by simp)⟩, rfl, fun j hj => absurd hj (by simp)⟩
theorem getD_left {α : Type} (xs ys : List α) (d : α) (j : Nat) (h : j < xs.length) : (xs ++ ys).getD j d = xs.getD j d := by simp [List.getD, List.getElem?_append_left h]
theorem getD_last {α : Type} (xs : List α) (x d : α) (j : Nat) (h : j = xs.length) : (xs ++ [x]).getD j d = x := by subst h; simp [List.getD]
theorem getD_map_range {α : Type} (f : Nat → α) (n j : Nat) (d : α) (h : j < n) : ((List.range n).map f).getD j d = f j := by simp [List.getD, h]
end Go.Proofs.Ytkkjnembjlgiaaa
