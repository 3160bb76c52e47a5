/-
  The walk of (*digest.Hash).round: what a whole block does to the eight words.
-/
import Derived.Test.YthkongkbefpilaaDoorDig2
import Derived.Test.YthkongkbefpilaaDoorReg
import Derived.Deep.RegionHeld3
import Derived.Deep.DeepCutAuto
namespace Go.Proofs.YthkongkbefpilaaDoor
open Go.RowKit Sha
attribute [local go_sem] u_not u_xor u_and u_or u_add u_shr u_shl by_conv u_shl24 u_shl16 u_shl8 u_shr3 u_shr10
/-- The cells of a hash under way: the eight words, the block, how many bytes came. -/
def HC (s : S8) (l : List UInt8) (n : Int) : List Value := WC s.list ++ BC l ++ [Value.int .i64 n]
theorem HC_length (s : S8) (l : List UInt8) (n : Int) : (HC s l n).length = 9 + l.length := by simp [HC, WC_length, BC_length, S8.list]; omega
theorem range_only {w w' : World} {b o : Nat} {cs : List Value} (h : w.rangeAt b o cs) (ho : Only Nil w w') : w'.rangeAt b o cs :=
  fun j v hv => ho.cell (h j v hv) id
theorem HC_block {w : World} {g : Nat} {t : TypeId} {s : S8} {l : List UInt8} {n : Int} (h : Blk w g t (HC s l n)) : w.rangeAt g 8 (BC l) := by
  intro j v hv
  rw [h.cell]
  have hj : j < (BC l).length := (List.getElem?_eq_some_iff.1 hv).1
  have h8 : (WC s.list).length = 8 := by simp [WC_length, S8.list]
  unfold HC
  rw [List.append_assoc, List.getElem?_append_right (by omega), List.getElem?_append_left (by omega), h8, show 8 + j - 8 = j by omega]
  exact hv
/-- What the operations of the first region leave, each in its temporary. -/
def R0F (g : Nat) (l : List UInt8) (w : World) : Nat → Value → World → Prop
  | 0, v, _ => v = .agg (WC K).toArray
  | 1, v, _ => v = .pointer (some ⟨g, 0, none⟩)
  | 2, v, _ => v = .pointer (some ⟨g, 0, none⟩)
  | 3, v, _ => v = .pointer (some ⟨g, 8, none⟩)
  | 4, v, _ => v = .agg (BC l).toArray
  | 5, v, _ => v = .agg (WC (wordsTo l 64)).toArray
  | _, v, wx => ∃ b cs, v = .pointer (some ⟨b, 0, none⟩) ∧ w.heap.size ≤ b ∧ Blk wx b 99 cs ∧ cs.length = 64
theorem R0F.keep {g : Nat} {l : List UInt8} {w wx wy : World} {j : Nat} {v : Value} (h : R0F g l w j v wx) (ho : Only Nil wx wy) : R0F g l w j v wy := by
  match j, h with
  | 0, h => exact h
  | 1, h => exact h
  | 2, h => exact h
  | 3, h => exact h
  | 4, h => exact h
  | 5, h => exact h
  | _ + 6, ⟨b, cs, h1, h2, h3, h4⟩ => exact ⟨b, cs, h1, h2, ho.blk h3 id, h4⟩
def r0slot : Nat → Tmp
  | 0 => 17 | 1 => 18 | 2 => 19 | 3 => 20 | 4 => 21 | 5 => 22 | 6 => 2 | _ => 3
def r0slots : List Tmp := [17, 18, 19, 20, 21, 22, 2, 3]
theorem r0_mem : ∀ i, i < 8 → r0slot i ∈ r0slots := by decide
theorem r0_le : ∀ i, i < 8 → r0slot i ≤ 22 := by decide
theorem r0_ne : ∀ i, i < 8 → ∀ j, j < 8 → i ≠ j → r0slot i ≠ r0slot j := by decide
theorem r0_ne2 : ∀ i, i < 8 → i ≠ 6 → r0slot i ≠ 2 := by decide
theorem r0_ne3 : ∀ i, i < 8 → i ≠ 7 → r0slot i ≠ 3 := by decide
/-- Ahead of the stores. -/
structure R0A (g : Nat) (l : List UInt8) (w : World) (a0 : Act) (listed : Array Bool) (a : Act) (wx : World) : Prop where
  sheet : Sheet a0 r0slots a
  only : Only Nil w wx
  f : ∀ j, j < 8 → listed.getD j false = true → R0F g l w j (got a (r0slot j)) wx
  ne : listed.getD 6 false = true → listed.getD 7 false = true → got a 2 ≠ got a 3
  chain : ∀ j, 1 ≤ j → j < 5 → listed.getD (j + 1) false = true → listed.getD j false = true
theorem R0A.step {g : Nat} {l : List UInt8} {w : World} {a0 a : Act} {listed : Array Bool} {wx wy : World} (h : R0A g l w a0 listed a wx) (i : Nat) (hi : i < 8) (v : Value) (hb : 22 < a0.tmps.size)
    (ho : Only Nil wx wy) (hv : R0F g l w i v wy) (hs : 8 ≤ listed.size) (hc : ∀ j, 1 ≤ j → j < 5 → i = j + 1 → listed.getD j false = true) (hn : (i = 6 → listed.getD 7 false = true → v ≠ got a 3) ∧ (i = 7 → listed.getD 6 false = true → got a 2 ≠ v)) :
    R0A g l w a0 (listed.setIfInBounds i true) (a.put (some (r0slot i)) v) wy := by
  have hm := r0_mem i hi
  have hlt : r0slot i < a.tmps.size := by
    rw [h.sheet.size]
    exact Nat.lt_of_le_of_lt (r0_le i hi) hb
  have hdis := r0_ne i hi
  refine ⟨h.sheet.put _ hm _, h.only.then ho, fun j hj hl => ?_, fun h6 h7 => ?_, fun j h1 h5 hl => ?_⟩
  · by_cases hij : i = j
    · subst hij
      rw [got_put_same _ _ _ hlt]
      exact hv
    · rw [listed_ne hij] at hl
      rw [got_put_ne _ _ _ _ (hdis j hj hij)]
      exact (h.f j hj hl).keep ho
  · by_cases h6' : i = 6
    · subst h6'
      rw [listed_ne (by decide)] at h7
      have e2 : got (a.put (some (r0slot 6)) v) 2 = v := got_put_same _ _ _ hlt
      have e3 : got (a.put (some (r0slot 6)) v) 3 = got a 3 := got_put_ne _ _ _ _ (by decide)
      rw [e2, e3]
      exact hn.1 rfl h7
    · by_cases h7' : i = 7
      · subst h7'
        rw [listed_ne (by decide)] at h6
        have e2 : got (a.put (some (r0slot 7)) v) 3 = v := got_put_same _ _ _ hlt
        have e3 : got (a.put (some (r0slot 7)) v) 2 = got a 2 := got_put_ne _ _ _ _ (by decide)
        rw [e2, e3]
        exact hn.2 rfl h6
      · rw [listed_ne h6'] at h6
        rw [listed_ne h7'] at h7
        have e2 : got (a.put (some (r0slot i)) v) 2 = got a 2 := got_put_ne _ _ _ _ (r0_ne2 i hi h6')
        have e3 : got (a.put (some (r0slot i)) v) 3 = got a 3 := got_put_ne _ _ _ _ (r0_ne3 i hi h7')
        rw [e2, e3]
        exact h.ne h6 h7
  · by_cases hj : i = j
    · subst hj
      exact listed_self (by omega)
    · rw [listed_ne hj]
      by_cases hj1 : i = j + 1
      · exact hc j h1 h5 hj1
      · rw [listed_ne hj1] at hl
        exact h.chain j h1 h5 hl
/-- Behind the first store; behind the second. -/
def R0B (l : List UInt8) (w : World) (a0 : Act) (a : Act) (wx : World) : Prop :=
  Sheet a0 r0slots a ∧ Only Nil w wx ∧ got a 22 = .agg (WC (wordsTo l 64)).toArray ∧ ∃ b2 b3 cs, got a 2 = .pointer (some ⟨b2, 0, none⟩) ∧ got a 3 = .pointer (some ⟨b3, 0, none⟩) ∧ w.heap.size ≤ b2 ∧ w.heap.size ≤ b3 ∧ b2 ≠ b3 ∧
    Blk wx b2 99 (WC K) ∧ Blk wx b3 99 cs ∧ cs.length = 64
def R0C (l : List UInt8) (w : World) (a0 : Act) (a : Act) (wx : World) : Prop :=
  Sheet a0 r0slots a ∧ Only Nil w wx ∧ ∃ b2 b3, got a 2 = .pointer (some ⟨b2, 0, none⟩) ∧ got a 3 = .pointer (some ⟨b3, 0, none⟩) ∧ Blk wx b2 99 (WC K) ∧ Blk wx b3 99 (WC (wordsTo l 64))
def R0 (g : Nat) (l : List UInt8) (a0 : Act) (w : World) (listed : Array Bool) (a : Act) (wx : World) : Prop :=
  (listed.getD 8 false = false ∧ listed.getD 9 false = false ∧ R0A g l w a0 listed a wx) ∨
  ((∀ j, j < 9 → listed.getD j false = true) ∧ listed.getD 9 false = false ∧ R0B l w a0 a wx) ∨
  ((∀ j, j < 10 → listed.getD j false = true) ∧ R0C l w a0 a wx)
/-- One of the first eight operations: it stands ahead of the stores. -/
theorem R0.early {g : Nat} {l : List UInt8} {w : World} {a0 a : Act} {listed : Array Bool} {wx : World} (h : R0 g l a0 w listed a wx) (i : Nat) (hi : i < 8) (h0 : listed.getD i false = false) :
    listed.getD 8 false = false ∧ listed.getD 9 false = false ∧ R0A g l w a0 listed a wx := by
  rcases h with h | ⟨h, _⟩ | ⟨h, _⟩
  · exact h
  · rw [h i (by omega)] at h0; cases h0
  · rw [h i (by omega)] at h0; cases h0
theorem R0.step {g : Nat} {l : List UInt8} {w : World} {a0 a : Act} {listed : Array Bool} {wx wy : World} (h : R0 g l a0 w listed a wx) (i : Nat) (hi : i < 8) (h0 : listed.getD i false = false) (v : Value) (hb : 22 < a0.tmps.size)
    (ho : Only Nil wx wy) (hv : R0F g l w i v wy) (hs : 8 ≤ listed.size) (hc : ∀ j, 1 ≤ j → j < 5 → i = j + 1 → listed.getD j false = true)
    (hn : (i = 6 → listed.getD 7 false = true → v ≠ got a 3) ∧ (i = 7 → listed.getD 6 false = true → got a 2 ≠ v)) :
    R0 g l a0 w (listed.setIfInBounds i true) (a.put (some (r0slot i)) v) wy := by
  obtain ⟨h8, h9, hA⟩ := h.early i hi h0
  exact .inl ⟨by rw [listed_ne (by omega)]; exact h8, by rw [listed_ne (by omega)]; exact h9, hA.step i hi v hb ho hv hs hc hn⟩
/-- What the rounds' loop keeps. -/
def RoundAt (w wr : World) (gk gw : Nat) (l : List UInt8) : Prop := Blk wr gk 99 (WC K) ∧ Blk wr gw 99 (WC (wordsTo l 64)) ∧ Only Nil w wr
theorem RoundAt.drewN {w wr : World} {gk gw : Nat} {l : List UInt8} (h : RoundAt w wr gk gw l) (n : Nat) : RoundAt w (wr.drewN n) gk gw l := ⟨h.1.drewN n, h.2.1.drewN n, h.2.2.drewN n⟩
theorem HC_word {w : World} {g : Nat} {t : TypeId} {s : S8} {l : List UInt8} {n : Int} (h : Blk w g t (HC s l n)) (i : Nat) (hi : i < 8) : w.cell? ⟨g, i, none⟩ = some (.int .u32 (wd (s.list.getD i 0))) := by
  rw [h.cell]
  unfold HC
  rw [List.append_assoc, List.getElem?_append_left (by simpa [WC_length, S8.list] using hi)]
  exact WC_get _ _ (by simpa [S8.list] using hi)
theorem right6 (x : BitVec 32) (w : World) : Calls Tryd.prog 54 #[.int .u32 (wd x), .int .i64 6] w fun e w' => e = .returned (.int .u32 (wd (rotr x 6))) ∧ w' = w := right_still x 6 w (by omega) (by omega)
theorem right11 (x : BitVec 32) (w : World) : Calls Tryd.prog 54 #[.int .u32 (wd x), .int .i64 11] w fun e w' => e = .returned (.int .u32 (wd (rotr x 11))) ∧ w' = w := right_still x 11 w (by omega) (by omega)
theorem right25 (x : BitVec 32) (w : World) : Calls Tryd.prog 54 #[.int .u32 (wd x), .int .i64 25] w fun e w' => e = .returned (.int .u32 (wd (rotr x 25))) ∧ w' = w := right_still x 25 w (by omega) (by omega)
theorem right2 (x : BitVec 32) (w : World) : Calls Tryd.prog 54 #[.int .u32 (wd x), .int .i64 2] w fun e w' => e = .returned (.int .u32 (wd (rotr x 2))) ∧ w' = w := right_still x 2 w (by omega) (by omega)
theorem right13 (x : BitVec 32) (w : World) : Calls Tryd.prog 54 #[.int .u32 (wd x), .int .i64 13] w fun e w' => e = .returned (.int .u32 (wd (rotr x 13))) ∧ w' = w := right_still x 13 w (by omega) (by omega)
theorem right22 (x : BitVec 32) (w : World) : Calls Tryd.prog 54 #[.int .u32 (wd x), .int .i64 22] w fun e w' => e = .returned (.int .u32 (wd (rotr x 22))) ∧ w' = w := right_still x 22 w (by omega) (by omega)
theorem run_index_one {P : Program} (w : World) (t e : TypeId) (len : Nat) (k : IntKind) (cs : Array Value) (i : Nat) (v : Value) (ht : P.underlying t = some (.array len e)) (he : P.underlying e = some (.int k))
    (hi : (P.info? e).map (·.size) = some 1) (hlt : i < len) (hv : cs[i]? = some v) : (Instr.index t (.agg cs) (.int .i64 (i : Int))).run P w = .ok v w := by
  have h1 : 0 ≤ (i : Int) ∧ (i : Int) < (len : Int) := by omega
  obtain ⟨i1, hi, hs⟩ := Option.map_eq_some_iff.1 hi
  simp [Instr.index, asIntOf, run_underlying ht, sizeOf, typeInfo, hi, hs, part, isAgg, run_underlying he, hlt, hv]
/-- The hash's cells with words that are not yet a state. -/
def HL (ws : List (BitVec 32)) (l : List UInt8) (n : Int) : List Value := WC ws ++ BC l ++ [Value.int .i64 n]
theorem HL_word {w : World} {g : Nat} {t : TypeId} {ws : List (BitVec 32)} {l : List UInt8} {n : Int} (h : Blk w g t (HL ws l n)) (i : Nat) (hi : i < ws.length) : w.cell? ⟨g, i, none⟩ = some (.int .u32 (wd (ws.getD i 0))) := by
  rw [h.cell]
  unfold HL
  rw [List.append_assoc, List.getElem?_append_left (by simpa [WC_length] using hi)]
  exact WC_get _ _ hi
theorem HL_set (ws : List (BitVec 32)) (l : List UInt8) (n : Int) (i : Nat) (hi : i < ws.length) (x : BitVec 32) : (HL ws l n).set i (.int .u32 (wd x)) = HL (ws.set i x) l n := by
  unfold HL
  rw [List.append_assoc, List.set_append_left _ _ (by simpa [WC_length] using hi), WC_set, List.append_assoc]
/-- What the last loop keeps. -/
def AddAt (w wr : World) (g : Nat) (s r : S8) (l : List UInt8) (n : Int) (i : Nat) : Prop := Blk wr g 75 (HL (addTo s r i) l n) ∧ Only (One g) w wr
theorem AddAt.next {w wr : World} {g : Nat} {s r : S8} {l : List UInt8} {n : Int} {i : Nat} (h : AddAt w wr g s r l n i) (hi : i < 8) {w2 : World} (hw : w2 = wr.drew) :
    AddAt w (w2.setCell ⟨g, i, none⟩ (.int .u32 (wd (s.list.getD i 0 + r.list.getD i 0)))) g s r l n (i + 1) := by
  subst hw
  refine ⟨?_, h.2.drew.setCell (.inl (One.self g)) _⟩
  have := h.1.drew.set i (.int .u32 (wd (s.list.getD i 0 + r.list.getD i 0)))
  rw [HL_set _ _ _ _ (by rw [addTo_length _ _ _ (by omega)]; exact hi), addTo_set _ _ _ hi] at this
  exact this
set_option maxHeartbeats 3200000 in
set_option maxRecDepth 100000 in
theorem round_any (g : Nat) (s : S8) (l : List UInt8) (n : Int) (w : World) (hl : l.length = 64) (hb : Blk w g 75 (HC s l n)) :
    Calls Tryd.prog 48 #[.pointer (some ⟨g, 0, none⟩)] w fun e w' => e = .returned (.tuple #[]) ∧ Blk w' g 75 (HC (gone s l) l n) ∧ Only (One g) w w' := by
  have hu := Tryd.underlying73
  have hi : (Tryd.prog.info? 73).map (·.size) = some (BC l).length := by rw [BC_length, hl]; kernel_rfl
  have hr := HC_block hb
  have hk : (Tryd.prog.info? 99).map (·.size) = some 64 := by kernel_rfl
  have hz : (Tryd.prog.info? 99).map (·.zero) = some (some (.agg (List.replicate 64 (.int .u32 0)).toArray)) := by kernel_rfl
  go_enter Tryd.func48, Tryd.ntmps48
  go_upto_region 1 with fail
  go_cut [2, 3] (fun k v wx => ∃ gk gw : Nat, k = .pointer (some ⟨gk, 0, none⟩) ∧ v = .pointer (some ⟨gw, 0, none⟩) ∧ Blk wx gk 99 (WC K) ∧ Blk wx gw 99 (WC (wordsTo l 64)) ∧ Only Nil w wx)
  case first =>
    refine wp_region_from (by kernel_rfl) (R0 g l) ?_ ?_ ?_
    · refine .inl ⟨?_, ?_, Sheet.refl _ _, (Only.refl _ _).drew, fun j _ h => (none_listed h).elim, fun h => (none_listed h).elim, fun j _ _ h => (none_listed h).elim⟩ <;> rfl
    · intro listed a wx i hs hI hi
      obtain ⟨hlt, h0, o, ho, hall⟩ := ready_of hs hi
      clear hi
      have hs8 : 8 ≤ listed.size := by rw [hs]; decide
      have hs10 : 10 ≤ listed.size := by rw [hs]; decide
      match i, hlt, h0, ho with
      | 0, _, h0, ho =>
        refine wpOp_of rfl rfl (wp_enter (w' := wx) (f := 52) (args := #[]) (by go_simp) (table_any wx) ?_)
        rintro e w1 ⟨rfl, ho1⟩
        exact ⟨_, rfl, hI.step 0 (by decide) h0 _ (by show 22 < 151; decide) ho1 rfl hs8 (by omega) ⟨by omega, by omega⟩⟩
      | 1, _, h0, ho =>
        have hA := (hI.early 1 (by decide) h0).2.2
        have e0 : a.tmps[0]?.getD undef = .pointer (some ⟨g, 0, none⟩) := by simpa [got] using hA.sheet.got 0 (by decide)
        exact wpOp_of rfl rfl (wp_value (w' := wx) (v := .pointer (some ⟨g, 0, none⟩)) (by go_simp) (hI.step 1 (by decide) h0 _ (by show 22 < 151; decide) (Only.refl _ _) rfl hs8 (by omega) ⟨by omega, by omega⟩))
      | 2, _, h0, ho =>
        have hA := (hI.early 2 (by decide) h0).2.2
        have h1 : listed.getD 1 false = true := by
          obtain rfl := Option.some.inj ho
          exact hall ⟨1, .data⟩ (by simp) rfl
        have e0 : a.tmps[18]?.getD undef = .pointer (some ⟨g, 0, none⟩) := by simpa [got, r0slot, R0F] using hA.f 1 (by decide) h1
        have hc : ∀ j, 1 ≤ j → j < 5 → 2 = j + 1 → listed.getD j false = true := by
          intro j _ _ hj
          obtain rfl : j = 1 := by omega
          exact h1
        exact wpOp_of rfl rfl (wp_value (w' := wx) (v := .pointer (some ⟨g, 0, none⟩)) (by go_simp) (hI.step 2 (by decide) h0 _ (by show 22 < 151; decide) (Only.refl _ _) rfl hs8 hc ⟨by omega, by omega⟩))
      | 3, _, h0, ho =>
        have hA := (hI.early 3 (by decide) h0).2.2
        have h1 : listed.getD 2 false = true := by
          obtain rfl := Option.some.inj ho
          exact hall ⟨2, .data⟩ (by simp) rfl
        have e0 : a.tmps[19]?.getD undef = .pointer (some ⟨g, 0, none⟩) := by simpa [got, r0slot, R0F] using hA.f 2 (by decide) h1
        have hc : ∀ j, 1 ≤ j → j < 5 → 3 = j + 1 → listed.getD j false = true := by
          intro j _ _ hj
          obtain rfl : j = 2 := by omega
          exact h1
        exact wpOp_of rfl rfl (wp_value (w' := wx) (v := .pointer (some ⟨g, 8, none⟩)) (by go_simp) (hI.step 3 (by decide) h0 _ (by show 22 < 151; decide) (Only.refl _ _) rfl hs8 hc ⟨by omega, by omega⟩))
      | 4, _, h0, ho =>
        have hA := (hI.early 4 (by decide) h0).2.2
        have h1 : listed.getD 3 false = true := by
          obtain rfl := Option.some.inj ho
          exact hall ⟨3, .data⟩ (by simp) rfl
        have e0 : a.tmps[20]?.getD undef = .pointer (some ⟨g, 8, none⟩) := by simpa [got, r0slot, R0F] using hA.f 3 (by decide) h1
        have hc : ∀ j, 1 ≤ j → j < 5 → 4 = j + 1 → listed.getD j false = true := by
          intro j _ _ hj
          obtain rfl : j = 3 := by omega
          exact h1
        exact wpOp_of rfl rfl (wp_load_mid 73 (.tmp 20) rfl g 8 (by simpa [Act.eval] using e0) (BC l) _ (range_only hr hA.only) hu rfl hi (hI.step 4 (by decide) h0 _ (by show 22 < 151; decide) (Only.refl _ _) rfl hs8 hc ⟨by omega, by omega⟩))
      | 5, _, h0, ho =>
        have hA := (hI.early 5 (by decide) h0).2.2
        have h1 : listed.getD 4 false = true := by
          obtain rfl := Option.some.inj ho
          exact hall ⟨4, .data⟩ (by simp) rfl
        have e0 : a.tmps[21]?.getD undef = .agg (BC l).toArray := by simpa [got, r0slot, R0F] using hA.f 4 (by decide) h1
        have hc : ∀ j, 1 ≤ j → j < 5 → 5 = j + 1 → listed.getD j false = true := by
          intro j _ _ hj
          obtain rfl : j = 4 := by omega
          exact h1
        refine wpOp_of rfl rfl (wp_enter (w' := wx) (f := 53) (args := #[.agg (BC l).toArray]) (by go_simp) (sched_any l wx hl) ?_)
        rintro e w1 ⟨rfl, ho1⟩
        exact ⟨_, rfl, hI.step 5 (by decide) h0 _ (by show 22 < 151; decide) ho1 rfl hs8 hc ⟨by omega, by omega⟩⟩
      | 6, _, h0, ho =>
        have hA := (hI.early 6 (by decide) h0).2.2
        refine wpOp_of rfl rfl (wp_value (w' := wx.alloc (.cells (List.replicate 64 (.int .u32 0)).toArray 99)) (v := .pointer (some ⟨wx.heap.size, 0, none⟩)) (by go_simp) ?_)
        refine hI.step 6 (by decide) h0 _ (by show 22 < 151; decide) ((Only.refl _ _).alloc _) ⟨_, _, rfl, hA.only.size, Blk.new wx _ _, by simp⟩ hs8 (by omega) ⟨fun _ h7 => ?_, by omega⟩
        obtain ⟨b, cs, h1, h2, h3, h4⟩ := hA.f 7 (by decide) h7
        intro e
        have e' : got a 3 = .pointer (some ⟨b, 0, none⟩) := h1
        rw [e'] at e
        injection e with e
        injection e with e
        injection e with e
        exact absurd h3.lt (by omega)
      | 7, _, h0, ho =>
        have hA := (hI.early 7 (by decide) h0).2.2
        refine wpOp_of rfl rfl (wp_value (w' := wx.alloc (.cells (List.replicate 64 (.int .u32 0)).toArray 99)) (v := .pointer (some ⟨wx.heap.size, 0, none⟩)) (by go_simp) ?_)
        refine hI.step 7 (by decide) h0 _ (by show 22 < 151; decide) ((Only.refl _ _).alloc _) ⟨_, _, rfl, hA.only.size, Blk.new wx _ _, by simp⟩ hs8 (by omega) ⟨by omega, fun _ h6 => ?_⟩
        obtain ⟨b, cs, h1, h2, h3, h4⟩ := hA.f 6 (by decide) h6
        intro e
        have e' : got a 2 = .pointer (some ⟨b, 0, none⟩) := h1
        rw [e'] at e
        injection e with e
        injection e with e
        injection e with e
        exact absurd h3.lt (by omega)
      | 8, _, h0, ho =>
        have hall' : listed.getD 0 false = true ∧ listed.getD 5 false = true ∧ listed.getD 6 false = true ∧ listed.getD 7 false = true := by
          obtain rfl := Option.some.inj ho
          exact ⟨hall ⟨0, .data⟩ (by simp) rfl, hall ⟨5, .chain⟩ (by simp) rfl, hall ⟨6, .data⟩ (by simp) rfl, hall ⟨7, .phase⟩ (by simp) rfl⟩
        obtain ⟨l0, l5, l6, l7⟩ := hall'
        rcases hI with ⟨_, h9, hA⟩ | ⟨h8, _⟩ | ⟨h8, _⟩
        · obtain ⟨b2, c2, p1, p2, p3, p4⟩ := hA.f 6 (by decide) l6
          obtain ⟨b3, c3, q1, q2, q3, q4⟩ := hA.f 7 (by decide) l7
          have k17 : got a 17 = .agg (WC K).toArray := hA.f 0 (by decide) l0
          have k22 : got a 22 = .agg (WC (wordsTo l 64)).toArray := hA.f 5 (by decide) l5
          have k2 : got a 2 = .pointer (some ⟨b2, 0, none⟩) := p1
          have k3 : got a 3 = .pointer (some ⟨b3, 0, none⟩) := q1
          have hne : b2 ≠ b3 := by
            intro e
            subst e
            exact hA.ne l6 l7 (k2.trans k3.symm)
          have l4 := hA.chain 4 (by omega) (by omega) l5
          have l3 := hA.chain 3 (by omega) (by omega) l4
          have l2 := hA.chain 2 (by omega) (by omega) l3
          have l1 := hA.chain 1 (by omega) (by omega) l2
          refine wpOp_of rfl rfl (wp_store_row 99 (.tmp 2) (.tmp 17) rfl b2 (WC K).toArray k2 k17 _ _ p3 (by rw [hk]; rfl) (by simpa [WC_length, K_length] using p4) (all_oneCell_toArray (WC_one K)) ?_)
          refine .inr (.inl ⟨?_, ?_, ?_⟩)
          · intro j hj
            by_cases h8 : 8 = j
            · subst h8; exact listed_self (by omega)
            · rw [listed_ne h8]
              match j, hj, h8 with
              | 0, _, _ => exact l0
              | 1, _, _ => exact l1
              | 2, _, _ => exact l2
              | 3, _, _ => exact l3
              | 4, _, _ => exact l4
              | 5, _, _ => exact l5
              | 6, _, _ => exact l6
              | 7, _, _ => exact l7
              | 8, _, h => exact absurd rfl h
          · rw [listed_ne (by decide)]; exact h9
          · exact ⟨hA.sheet.putNone _, hA.only.setRow (.inr p2) _, k22, b2, b3, c3, k2, k3, p2, q2, hne, p3.row _, q3.rowFar (Ne.symm hne) _, q4⟩
        · rw [h8 8 (by omega)] at h0; cases h0
        · rw [h8 8 (by omega)] at h0; cases h0
      | 9, _, h0, ho =>
        have l8 : listed.getD 8 false = true := by
          obtain rfl := Option.some.inj ho
          exact hall ⟨8, .chain⟩ (by simp) rfl
        rcases hI with ⟨h8, _⟩ | ⟨hj8, _, hB⟩ | ⟨h8, _⟩
        · rw [h8] at l8; cases l8
        · obtain ⟨hs1, ho1, k22, b2, b3, cs, k2, k3, p2, q2, hne, hb2, hb3, hcs⟩ := hB
          refine wpOp_of rfl rfl (wp_store_row 99 (.tmp 3) (.tmp 22) rfl b3 (WC (wordsTo l 64)).toArray k3 k22 _ _ hb3 (by rw [hk]; simp [WC_length, wordsTo_length]) (by simpa [WC_length, wordsTo_length] using hcs) (all_oneCell_toArray (WC_one _)) ?_)
          refine .inr (.inr ⟨fun j hj => ?_, hs1.putNone _, ho1.setRow (.inr q2) _, b2, b3, k2, k3, hb2.rowFar hne _, hb3.row _⟩)
          by_cases h9 : 9 = j
          · subst h9; exact listed_self (by omega)
          · rw [listed_ne h9]; exact hj8 j (by omega)
        · rw [h8 9 (by omega)] at h0; cases h0
    · intro listed a wx hs hI hr0
      have l9 : listed.getD 9 false = true := ready_nil (by kernel_rfl) hs hr0 9 (by decide)
      rcases hI with ⟨_, h9, _⟩ | ⟨_, h9, _⟩ | ⟨_, hs1, ho1, b2, b3, k2, k3, hb2, hb3⟩
      · rw [h9] at l9; cases l9
      · rw [h9] at l9; cases l9
      · rw [hs1.form]
        go_wp2_with fail
        go_meet
        exact ⟨b2, b3, k2, k3, hb2, hb3, ho1⟩
  case rest =>
    obtain ⟨gk, gw, rfl, rfl, hK, hW, hO⟩ := hcut
    have hg := hO.blk hb id
    have w0 : wc.cell? ⟨g, 0, none⟩ = some (.int .u32 (wd s.a)) := HC_word hg 0 (by omega)
    have w1 : wc.cell? ⟨g, 1, none⟩ = some (.int .u32 (wd s.b)) := HC_word hg 1 (by omega)
    have w2 : wc.cell? ⟨g, 2, none⟩ = some (.int .u32 (wd s.c)) := HC_word hg 2 (by omega)
    have w3 : wc.cell? ⟨g, 3, none⟩ = some (.int .u32 (wd s.d)) := HC_word hg 3 (by omega)
    have w4 : wc.cell? ⟨g, 4, none⟩ = some (.int .u32 (wd s.e)) := HC_word hg 4 (by omega)
    have w5 : wc.cell? ⟨g, 5, none⟩ = some (.int .u32 (wd s.f)) := HC_word hg 5 (by omega)
    have w6 : wc.cell? ⟨g, 6, none⟩ = some (.int .u32 (wd s.g)) := HC_word hg 6 (by omega)
    have w7 : wc.cell? ⟨g, 7, none⟩ = some (.int .u32 (wd s.z)) := HC_word hg 7 (by omega)
    have hR := Lib.hid (show RoundAt w wc gk gw l from ⟨hK, hW, hO⟩)
    have HB := Lib.hid hb
    have HG := Lib.hid hg
    clear hK hW hO hr hi hu hk hz hb hg
    go_wp2
    go_quiet (fail)
    have hR2 := Lib.hid (hR.out.drewN nq)
    clear w0 w1 w2 w3 w4 w5 w6 w7 hR
    generalize wc.drewN nq = wd0 at *
    go_wp2
    go_loopw [4, 5, 6, 7, 8, 9, 10, 11, 63] (fun a b c d e f h z i wr => ∃ t : Nat, t ≤ 64 ∧ i = .int .i64 t ∧ ∃ r : S8, r = rounds (wordsTo l 64) s t ∧ a = .int .u32 (wd r.a) ∧ b = .int .u32 (wd r.b) ∧ c = .int .u32 (wd r.c) ∧ d = .int .u32 (wd r.d) ∧ e = .int .u32 (wd r.e) ∧ f = .int .u32 (wd r.f) ∧ h = .int .u32 (wd r.g) ∧ z = .int .u32 (wd r.z) ∧ RoundAt w wr gk gw l) (fun _ _ _ _ _ _ _ _ i _ => 64 - (intOf i).toNat)
    case atStart => exact ⟨0, Nat.zero_le _, rfl, s, rfl, rfl, rfl, rfl, rfl, rfl, rfl, rfl, rfl, hR2.out⟩
    case round =>
      obtain ⟨t, ht, rfl, r, hr, rfl, rfl, rfl, rfl, rfl, rfl, rfl, rfl, hRt⟩ := hrel
      have HR := Lib.hid hr
      clear hr
      by_cases hlt : t < 64
      · have ck := hRt.1.cell t
        rw [WC_get _ _ (by rw [K_length]; omega)] at ck
        have cw := hRt.2.1.cell t
        rw [WC_get _ _ (by rw [wordsTo_length]; omega)] at cw
        generalize hk : K.getD t 0 = k at *
        generalize hw : (wordsTo l 64).getD t 0 = x at *
        have HK := Lib.hid hk
        have HW := Lib.hid hw
        have HT := Lib.hid hRt
        have g4 : (t : Int) < 64 := by omega
        clear hk hw hRt
        go_wp2
        go_quiet ((go_at_call 54; first | ((with_reducible show Calls _ _ #[_, Value.int IntKind.i64 6] _ _); exact Calls.quiet_of_same (right6 _ _)) | ((with_reducible show Calls _ _ #[_, Value.int IntKind.i64 11] _ _); exact Calls.quiet_of_same (right11 _ _)) | ((with_reducible show Calls _ _ #[_, Value.int IntKind.i64 25] _ _); exact Calls.quiet_of_same (right25 _ _))))
        have HT2 := Lib.hid (HT.out.drewN nq)
        clear HT ck cw
        generalize wr.drewN nq = wq at *
        go_wp2_with (first | (go_at_call 54; first | ((with_reducible show Calls _ _ #[_, Value.int IntKind.i64 2] _ _); refine Calls.mono (right2 _ _) ?_; rintro e w' ⟨rfl, rfl⟩) | ((with_reducible show Calls _ _ #[_, Value.int IntKind.i64 13] _ _); refine Calls.mono (right13 _ _) ?_; rintro e w' ⟨rfl, rfl⟩) | ((with_reducible show Calls _ _ #[_, Value.int IntKind.i64 22] _ _); refine Calls.mono (right22 _ _) ?_; rintro e w' ⟨rfl, rfl⟩)))
        have HS := Lib.hid (show Sha.step k x r = rounds (wordsTo l 64) s (t + 1) by rw [rounds, HK.out, HW.out, ← HR.out])
        go_roundw
        case rel => exact ⟨t + 1, by omega, by go_num, Sha.step k x r, HS.out, rfl, rfl, rfl, rfl, rfl, rfl, rfl, rfl, HT2.out⟩
        case measure => simp [intOf]; omega
      · have H64 := Lib.hid (show t = 64 by omega)
        go_wp2
        go_loopw [15, 16, 135] (fun _ _ i w2 => ∃ m : Nat, m ≤ 8 ∧ i = .int .i64 m ∧ AddAt w w2 g s r l n m) (fun _ _ i _ => 8 - (intOf i).toNat)
        case atStart =>
          refine ⟨0, Nat.zero_le _, rfl, ?_, ?_⟩
          · exact hRt.2.2.blk HB.out id
          · exact hRt.2.2.mono fun _ _ h => h.elim
        case round =>
          clear hRt
          obtain ⟨m, hm, rfl, hA⟩ := hrel
          by_cases hlt8 : m < 8
          · have hix : ∀ W : World, (Instr.index 72 (.agg #[.int .u32 (wd r.a), .int .u32 (wd r.b), .int .u32 (wd r.c), .int .u32 (wd r.d), .int .u32 (wd r.e), .int .u32 (wd r.f), .int .u32 (wd r.g), .int .u32 (wd r.z)]) (.int .i64 (m : Int))).run Tryd.prog W = .ok (.int .u32 (wd (r.list.getD m 0))) W :=
              fun W => run_index_one W _ _ 8 .u32 _ m _ Tryd.underlying72 Tryd.underlying71 (by kernel_rfl) hlt8 (by
                show (WC r.list).toArray[m]? = _
                rw [List.getElem?_toArray]
                exact WC_get r.list m (by simpa [S8.list] using hlt8))
            have c0 := HL_word hA.1 m (by rw [addTo_length _ _ _ (by omega)]; exact hlt8)
            rw [addTo_get _ _ _ hlt8] at c0
            have d4 : wr.drew.cell? ⟨g, m, none⟩ = some (.int .u32 (wd (s.list.getD m 0))) := c0
            have d5 : wr.drew.frozen? ⟨g, m, none⟩ = false := hA.1.free m
            generalize hs0 : s.list.getD m 0 = s0 at *
            generalize hr0 : r.list.getD m 0 = r0 at *
            have HS0 := Lib.hid hs0
            have HR0 := Lib.hid hr0
            have HA := Lib.hid hA
            have g4 : (m : Int) < 8 := by omega
            clear hs0 hr0 hA
            go_wp2
            go_still_tail 11, (by kernel_rfl)
            change wpList _ _ _ _ _ wr.drew
            generalize hw3 : wr.drew = w3 at *
            have HW3 := Lib.hid hw3
            clear hw3 c0
            go_wp2
            go_roundw
            case rel =>
              refine ⟨m + 1, by omega, by go_num, ?_⟩
              have := HA.out.next hlt8 HW3.out.symm
              rw [HS0.out, HR0.out] at this
              exact this
            case measure => simp [intOf]; omega
          · have H8 := Lib.hid (show m = 8 by omega)
            go_wp2
            go_end0
            have hA2 := hA
            rw [H8.out, AddAt, addTo_all] at hA2
            refine ⟨rfl, ?_, hA2.2⟩
            have e : s.add r = gone s l := by rw [gone, HR.out, H64.out]
            rw [← e]
            exact hA2.1
end Go.Proofs.YthkongkbefpilaaDoor
