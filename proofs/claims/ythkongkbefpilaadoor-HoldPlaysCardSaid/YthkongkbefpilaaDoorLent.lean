/-
  The walks of the statements' helpers 'lent' and 'kept': parts copied into memory of their own with two marked bytes behind each; whether they still read so.
-/
import Derived.Test.YthkongkbefpilaaDoorDig17
import Derived.Test.YthkongkbefpilaaDoorCut
namespace Go.Proofs.YthkongkbefpilaaDoor
set_option maxRecDepth 100000
open Go.RowKit Sha
/-- x is a slice of the bytes bs in a block of its own between base and top, with two marked bytes behind. -/
def Own2 (W : World) (base top : Nat) (x : Value) (bs : List UInt8) : Prop :=
  ∃ g cap, base ≤ g ∧ g < top ∧ x = .slice (some ⟨g, 0, none⟩) bs.length cap ∧ W.ownsRow base 5 1 (.slice (some ⟨g, 0, none⟩) (bs.length + 2) cap) (bs.length + 2) (BC (bs ++ [201, 202]))
theorem Own2.only {S : Nat → Prop} {W W' : World} {base top : Nat} {x : Value} {bs : List UInt8} (h : Own2 W base top x bs) (ho : Only S W W') (hS : ∀ g, x.ownBlock = some g → ¬ S g) : Own2 W' base top x bs := by
  obtain ⟨g, cap, h1, h2, rfl, h3⟩ := h
  exact ⟨g, cap, h1, h2, rfl, own_only h3 ho fun g' hg' => hS g' hg'⟩
theorem Own2.top {W : World} {base top top' : Nat} {x : Value} {bs : List UInt8} (h : Own2 W base top x bs) (ht : top ≤ top') : Own2 W base top' x bs := by
  obtain ⟨g, cap, h1, h2, h3⟩ := h
  exact ⟨g, cap, h1, by omega, h3⟩
theorem Own2.base {W : World} {base base' top : Nat} {x : Value} {bs : List UInt8} (h : Own2 W base top x bs) (ht : base' ≤ base) : Own2 W base' top x bs := by
  obtain ⟨g, cap, h1, h2, h3, h4⟩ := h
  exact ⟨g, cap, by omega, h2, h3, World.ownsRow.mono h4 ht⟩
theorem Own2.block {W : World} {base top : Nat} {x : Value} {bs : List UInt8} (h : Own2 W base top x bs) : ∃ g, x.ownBlock = some g ∧ base ≤ g ∧ g < top := by
  obtain ⟨g, cap, h1, h2, rfl, _⟩ := h
  exact ⟨g, rfl, h1, h2⟩
theorem Own2.reads {W : World} {base top : Nat} {x : Value} {bs : List UInt8} (h : Own2 W base top x bs) : RB W x bs := by
  obtain ⟨g, cap, h1, h2, rfl, h4⟩ := h
  have hc : bs.length + 2 ≤ cap := by
    rcases h4.2 with ⟨h, _⟩ | ⟨g', cap', cur, h, _, _, hc, _⟩
    · cases h
    · injection h with _ _ h
      omega
  refine ⟨some ⟨g, 0, none⟩, cap, rfl, by omega, fun _ => ⟨g, 0, rfl, fun j hj => ?_⟩⟩
  have := World.ownsRow.cells h4 (g := g) rfl j _ (by rw [BC_get _ _ (by rw [List.length_append]; omega)])
  rw [Addr.add_mid] at this
  rw [this]
  simp [List.getD, List.getElem?_append_left hj]
structure LentOk (W : World) (base top : Nat) (v : Value) (xs : List Value) (ps : List (List UInt8)) : Prop where
  row : W.ownsRow base 26 1 v ps.length xs
  each : ∀ j, j < ps.length → Own2 W base top (xs.getD j undef) (ps.getD j [])
  apart : ∀ i j, i < j → j < ps.length → (xs.getD i undef).ownBlock ≠ (xs.getD j undef).ownBlock
  off : ∀ j, j < ps.length → (xs.getD j undef).ownBlock ≠ v.ownBlock
theorem LentOk.len {W : World} {base top : Nat} {v : Value} {xs : List Value} {ps : List (List UInt8)} (h : LentOk W base top v xs ps) : xs.length = ps.length := by have := h.row.1; omega
theorem LentOk.parts {W : World} {base top : Nat} {v : Value} {xs : List Value} {ps : List (List UInt8)} (h : LentOk W base top v xs ps) : Parts W v xs ps :=
  ⟨own_reads h.row, h.len, fun j hj => (h.each j hj).reads⟩
theorem LentOk.only {W W' : World} {base top : Nat} {v : Value} {xs : List Value} {ps : List (List UInt8)} (h : LentOk W base top v xs ps) (ho : Only Nil W W') : LentOk W' base top v xs ps :=
  ⟨own_only h.row ho fun _ _ => id, fun j hj => (h.each j hj).only ho fun _ _ => id, h.apart, h.off⟩
theorem getD_left {α : Type} (xs ys : List α) (d : α) (j : Nat) (h : j < xs.length) : (xs ++ ys).getD j d = xs.getD j d := by simp [List.getD, List.getElem?_append_left h]
theorem getD_last {α : Type} (xs : List α) (x d : α) (j : Nat) (h : j = xs.length) : (xs ++ [x]).getD j d = x := by subst h; simp [List.getD]
/-- One more. -/
theorem LentOk.push {wr w5 w6 : World} {base k g6 cap6 : Nat} {out x : Value} {xs : List Value} {qs : List (List UInt8)} {bs : List UInt8} {o : Obj} (hk : qs.length = k) (hL : LentOk wr base wr.heap.size out xs qs) (hO5 : Only Nil wr w5)
    (hx : Own2 w5 wr.heap.size w5.heap.size x bs) (hb : base ≤ wr.heap.size) (hg : Grew (w5.alloc o) w6 base 26 out k 1 xs [x] g6 cap6) : LentOk w6 base w6.heap.size (.slice (some ⟨g6, 0, none⟩) (k + 1) cap6) (xs ++ [x]) (qs ++ [bs]) := by
  subst hk
  have hsz5 := hO5.size
  have hgr : Only (fun i => out.ownBlock = some i) (w5.alloc o) w6 := Only.of_grown hg.grown fun i hi => .inl hi
  have hsz6 := hgr.size
  rw [World.size_alloc] at hsz6
  have hxl := hL.len
  have hob := own_block hL.row
  obtain ⟨gx, ex, hx1, hx2⟩ := hx.block
  have hxo : out.ownBlock ≠ some gx := fun h => by have := (hob gx h).2; omega
  refine ⟨by have := hg.own; rwa [List.length_append], fun j hj => ?_, fun i j hij hj => ?_, fun j hj => ?_⟩
  · rw [List.length_append, List.length_singleton] at hj
    by_cases hjk : j < qs.length
    · rw [getD_left _ _ _ _ (by omega), getD_left _ _ _ _ hjk]
      have h := hL.each j hjk
      have hoff := hL.off j hjk
      exact (((h.only hO5 fun _ _ => id).only ((Only.refl Nil w5).alloc o) fun _ _ => id).only hgr fun g hg he => hoff (hg.trans he.symm)).top (by omega)
    · rw [getD_last _ _ _ _ (by omega), getD_last _ _ _ _ (by omega)]
      refine (((hx.only ((Only.refl Nil w5).alloc o) fun _ _ => id).only hgr fun g hg he => ?_).top (by omega)).base hb
      rw [ex] at hg
      rw [← hg] at he
      exact hxo he
  · rw [List.length_append, List.length_singleton] at hj
    rw [getD_left _ _ _ i (by omega)]
    by_cases hjk : j < qs.length
    · rw [getD_left _ _ _ j (by omega)]
      exact hL.apart i j hij hjk
    · rw [getD_last _ _ _ j (by omega), ex]
      obtain ⟨gi, ei, _, hi2⟩ := (hL.each i (by omega)).block
      rw [ei]
      intro h
      injection h with h
      omega
  · rw [List.length_append, List.length_singleton] at hj
    show _ ≠ some g6
    by_cases hjk : j < qs.length
    · rw [getD_left _ _ _ j (by omega)]
      rcases hg.at' with h | h
      · rw [← h]
        exact hL.off j hjk
      · obtain ⟨gi, ei, _, hi2⟩ := (hL.each j hjk).block
        rw [ei, h, World.size_alloc]
        intro h
        injection h with h
        omega
    · rw [getD_last _ _ _ j (by omega), ex]
      rcases hg.at' with h | h
      · rw [← h]
        exact fun h => hxo h.symm
      · rw [h, World.size_alloc]
        intro h
        injection h with h
        omega
theorem slice_marked {g n cap : Nat} (hk : n ≤ cap) (W : World) : (Instr.slice 26 (.slice (some ⟨g, 0, none⟩) (n + 2) cap) none (some (.int .i64 (n : Int))) none).run Tryd.prog W = .ok (.slice (some ⟨g, 0, none⟩) n cap) W := by
  have h := slice_bytes_h (A := some ⟨g, 0, none⟩) (n := n + 2) (c := cap) (k := n) hk W
  have e : sliced (some ⟨g, 0, none⟩) 0 n cap 1 = .slice (some ⟨g, 0, none⟩) n cap := by
    unfold sliced
    simp [Addr.add]
  rwa [e] at h
theorem info_row : (Tryd.prog.info? 26).map (fun i => (i.zero, i.size, i.bytes)) = some (some (.slice none 0 0), 1, 24) := by kernel_rfl
theorem run_append_none (ty : TypeId) (A : Option Addr) (c : Nat) (w : World) : (Builtin.append_ #[26, 26] ty #[.slice none 0 0, .slice A 0 c]).run Tryd.prog w = .ok (.slice none 0 0) w := by
  cases A <;> kernel_rfl
theorem wpList_append_none {w : World} {ops : Array Oper} {rest : List Oper} {o : Oper} {a : Act} {Q : Exit → Act → World → Prop} (hgd : o.guard = none) (s x : Operand)
    (ho : o.op = .call { callee := .builtin .append, args := #[s, x], argTypes := #[26, 26] }) (hs : a.eval s = .slice none 0 0) (A : Option Addr) (c : Nat) (hx : a.eval x = .slice A 0 c)
    (h : wpList Tryd.prog ops Q rest (a.put o.dst (.slice none 0 0)) w) : wpList Tryd.prog ops Q (o :: rest) a w := by
  refine wpList_plain hgd fun _ hK => ?_
  have hrun := run_append_none o.type A c w
  unfold Oper.wp
  simp [execOp, ho, resolve, invoke, builtin, hs, hx, hrun, Result.andThen]
  exact hK _ _ h
def Within (base top : Nat) : Nat → Prop := fun g => base ≤ g ∧ g < top
theorem RB.off {S : Nat → Prop} {w w' : World} {v : Value} {bs : List UInt8} (h : RB w v bs) (ho : Only S w w') (hS : 0 < bs.length → ∀ g, blkOf v = some g → ¬ S g) : RB w' v bs := by
  obtain ⟨A, c, rfl, hc, h⟩ := h
  refine ⟨A, c, rfl, hc, fun h0 => ?_⟩
  obtain ⟨g, o, rfl, hr⟩ := h h0
  exact ⟨g, o, rfl, fun j hj => ho.cell (hr j hj) (hS h0 g rfl)⟩
theorem Parts.off {S : Nat → Prop} {w w' : World} {v : Value} {vs : List Value} {ps : List (List UInt8)} (h : Parts w v vs ps) (ho : Only S w w') (h1 : 0 < vs.length → ∀ g, blkOf v = some g → ¬ S g)
    (h2 : ∀ j, j < ps.length → 0 < (ps.getD j []).length → ∀ g, blkOf (vs.getD j undef) = some g → ¬ S g) : Parts w' v vs ps := by
  refine ⟨?_, h.len, fun j hj => (h.each j hj).off ho (h2 j hj)⟩
  obtain ⟨A, c, rfl, hc, hr⟩ := h.row
  refine ⟨A, c, rfl, hc, fun h0 => ?_⟩
  obtain ⟨g, o, rfl, hr2⟩ := hr h0
  exact ⟨g, o, rfl, fun j hj => ho.cell (hr2 j hj) (h1 h0 g rfl)⟩
structure KeptAt (w : World) (base top : Nat) (l : Value) (xs : List Value) (ps : List (List UInt8)) (k : Nat) (wr : World) : Prop where
  row : wr.ownsRow base 26 1 l ps.length xs
  each : ∀ j, k ≤ j → j < ps.length → Own2 wr base top (xs.getD j undef) (ps.getD j [])
  only : Only (Within base top) w wr
theorem LentOk.kept {w : World} {base top : Nat} {l : Value} {xs : List Value} {ps : List (List UInt8)} (h : LentOk w base top l xs ps) : KeptAt w base top l xs ps 0 w :=
  ⟨h.row, fun j _ hj => h.each j hj, Only.refl _ _⟩
theorem KeptAt.next {w wr wx : World} {base top : Nat} {l : Value} {xs : List Value} {ps : List (List UInt8)} {k g : Nat} (h : KeptAt w base top l xs ps k wr) (hL : LentOk w base top l xs ps) (hk : k < ps.length) (hg : (xs.getD k undef).ownBlock = some g) (ho : Only (One g) wr wx) :
    KeptAt w base top l xs ps (k + 1) wx := by
  obtain ⟨g', e, h1, h2⟩ := (hL.each k hk).block
  rw [hg] at e
  injection e with e
  subst e
  refine ⟨own_only h.row ho fun i hi he => hL.off k hk (by rw [hg, hi, show i = g from he]), fun j hj hjl => (h.each j (by omega) hjl).only ho fun i hi he => hL.apart k j (by omega) hjl (by rw [hg, hi, show i = g from he]), h.only.trans ho fun i hi => .inl (by rw [show i = g from hi]; exact ⟨h1, h2⟩)⟩
theorem Own2.cells {W : World} {base top : Nat} {x : Value} {bs : List UInt8} (h : Own2 W base top x bs) : ∃ g cap, x = .slice (some ⟨g, 0, none⟩) bs.length cap ∧ bs.length + 2 ≤ cap ∧ W.cell? ⟨g, bs.length, none⟩ = some (.int .u8 201) ∧ W.cell? ⟨g, bs.length + 1, none⟩ = some (.int .u8 202) ∧
    ∃ cur : Array Value, W.heap[g]? = some (.cells cur 5 (0, 0)) ∧ bs.length + 2 ≤ cur.size := by
  obtain ⟨g, cap, h1, h2, rfl, h4⟩ := h
  have hcell := fun j u hu => World.ownsRow.cells h4 (g := g) rfl j u hu
  rcases h4.2 with ⟨h, _⟩ | ⟨g', cap', cur, h, _, hh, hc, _, hcs, _⟩
  · cases h
  · injection h with e1 e2 e3
    injection e1 with e1
    injection e1 with e1
    subst e1 e3
    refine ⟨g, cap, rfl, hc, ?_, ?_, cur, hh, by omega⟩
    · have := hcell bs.length (.int .u8 201) (by rw [BC_append, List.getElem?_append_right (by rw [BC_length]; exact Nat.le_refl _), BC_length, Nat.sub_self]; rfl)
      rwa [Addr.add_mid, Nat.zero_add] at this
    · have := hcell (bs.length + 1) (.int .u8 202) (by rw [BC_append, List.getElem?_append_right (by rw [BC_length]; omega), BC_length, show bs.length + 1 - bs.length = 1 by omega]; rfl)
      rwa [Addr.add_mid, Nat.zero_add] at this
theorem slice_all {g n cap : Nat} (hk : n + 2 ≤ cap) (W : World) : (Instr.slice 26 (.slice (some ⟨g, 0, none⟩) n cap) none (some (.int .i64 ((n : Int) + 2))) none).run Tryd.prog W = .ok (.slice (some ⟨g, 0, none⟩) (n + 2) cap) W := by
  have h := slice_bytes_h (A := some ⟨g, 0, none⟩) (n := n) (c := cap) (k := n + 2) hk W
  have e : sliced (some ⟨g, 0, none⟩) 0 (n + 2) cap 1 = .slice (some ⟨g, 0, none⟩) (n + 2) cap := by
    unfold sliced
    simp [Addr.add]
  rwa [e] at h
theorem KeptAt.drewN {w wr : World} {base top : Nat} {l : Value} {xs : List Value} {ps : List (List UInt8)} {k : Nat} (h : KeptAt w base top l xs ps k wr) (n : Nat) : KeptAt w base top l xs ps k (wr.drewN n) := ⟨h.row, h.each, h.only.drewN n⟩
/-- A block of bytes while it is written over. -/
def Over (g n : Nat) (w wr : World) : Prop := Only (One g) w wr ∧ ∃ cur : Array Value, wr.heap[g]? = some (.cells cur 5 (0, 0)) ∧ n ≤ cur.size
theorem Over.drewN {g n : Nat} {w : World} (h : Over g n w w) (k : Nat) : Over g n (w.drewN k) (w.drewN k) := ⟨Only.refl _ _, h.2⟩
theorem Over.put {g n k : Nat} {w wr : World} (h : Over g n w wr) (u : Value) : Over g n w (wr.setCell ⟨g, k, none⟩ u) := by
  obtain ⟨ho, cur, hh, hn⟩ := h
  refine ⟨ho.setCell (p := ⟨g, k, none⟩) (.inl (One.self g)) u, cur.setIfInBounds k u, ?_, by simpa using hn⟩
  simp [World.setCell, Array.getElem?_modify, hh]
theorem Over.cell {g n k : Nat} {w wr : World} (h : Over g n w wr) (hk : k < n) : (∃ u, wr.cell? ⟨g, k, none⟩ = some u) ∧ wr.frozen? ⟨g, k, none⟩ = false := by
  obtain ⟨ho, cur, hh, hn⟩ := h
  refine ⟨⟨cur[k]'(by omega), ?_⟩, by simp [World.frozen?, hh]⟩
  have := cell_of_row wr g k cur 5 (0, 0) hh
  rw [this]
  exact Array.getElem?_eq_getElem _
end Go.Proofs.YthkongkbefpilaaDoor
