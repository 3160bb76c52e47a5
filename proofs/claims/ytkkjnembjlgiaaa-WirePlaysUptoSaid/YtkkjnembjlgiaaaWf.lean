/-
  bytes.Clone; a wire's time is moved on; a frame is laid onto it.
-/
import Derived.Test.YtkkjnembjlgiaaaWe
import Derived.Test.YtkkjnembjlgiaaaWp
import Derived.Deep.MidRow
import Derived.Lib.BufferMore
namespace Go.Proofs.Ytkkjnembjlgiaaa
set_option maxRecDepth 100000
open Go.RowKit

section
variable {P : Program} {w : World}
/-- An append of bytes to a row of the call's own, from whatever slice. -/
theorem run_append_bytes (B : Nat) (t ty e : TypeId) (i : TypeInfo) (z : Value) (ht : P.underlying t = some (.slice e)) (hi : P.info? e = some i) (hz : i.zero = some z)
    (hsize : i.size = 1) (hby : i.bytes = 1) (hzs : z.cells.size = 1)
    (v : Value) (n : Nat) (xs : List Value) (hown : w.ownsRow B e 1 v n xs) (u : Value) (bs : List UInt8) (hb : RB w u bs) (h63 : n + bs.length ≤ 140737488355328) (hbase : B ≤ w.heap.size) :
    ∃ v' w', (Builtin.append_ #[t, t] ty #[v, u]).run P w = .ok v' w' ∧ w'.ownsRow B e 1 v' (n + bs.length) (xs ++ BC bs) ∧ w.grownBy w' v.ownBlock ∧ (v'.ownBlock = v.ownBlock ∨ v'.ownBlock = some w.heap.size) := by
  obtain ⟨A, c, rfl, hc, hr⟩ := hb
  cases A with
  | none =>
    have h0 : bs = [] := List.eq_nil_of_length_eq_zero (by
      rcases Nat.eq_zero_or_pos bs.length with h | h
      · exact h
      · obtain ⟨g, o, e, _⟩ := hr h
        cases e)
    subst h0
    refine ⟨v, w, ?_, by simpa [BC] using hown, ⟨rfl, rfl, rfl, Nat.le_refl _, fun _ _ _ => rfl⟩, .inl rfl⟩
    rcases hown.2 with ⟨rfl, rfl⟩ | ⟨g, cap, cur, rfl, _, _, hnc, _⟩
    · simp [Builtin.append_, run_underlying ht, sizeOf, typeInfo, hi, Builtin.lenOf, Builtin.firstCells]
    · simp [Builtin.append_, run_underlying ht, sizeOf, typeInfo, hi, Builtin.lenOf, Builtin.firstCells, hnc, storeCells]
  | some a =>
    have hm : maxLen = 9223372036854775807 := rfl
    obtain ⟨v', w', h1, h2, h3, _, h5⟩ := run_append_own_at (P := P) (w := w) B t ty e i z 1 1 ht hi hz hsize hby hzs (by decide) v n xs hown a bs.length c (BC bs) (by rw [BC_length]; omega) (by
      intro j u hu
      have hj : j < bs.length := by have := (List.getElem?_eq_some_iff.1 hu).1; rwa [BC_length] at this
      rw [BC_get _ _ hj] at hu
      obtain ⟨g, o, e1, hc1⟩ := hr (by omega)
      obtain rfl := Option.some.inj e1
      rw [Addr.add_mid]
      exact (hc1 j hj).trans hu) (BC_one bs) (by omega) (by omega) hbase
    exact ⟨v', w', h1, h2, h3, h5⟩
theorem wpList_append_bytes {ops : Array Oper} {rest : List Oper} {o : Oper} {a : Act} {Q : Exit → Act → World → Prop} (hgd : o.guard = none) (s x : Operand) (t : TypeId)
    (ho : o.op = .call { callee := .builtin .append, args := #[s, x], argTypes := #[t, t] })
    (B : Nat) (e : TypeId) (i : TypeInfo) (z : Value) (ht : P.underlying t = some (.slice e)) (hi : P.info? e = some i) (hz : i.zero = some z)
    (hsize : i.size = 1) (hby : i.bytes = 1) (hzs : z.cells.size = 1)
    (v : Value) (n : Nat) (xs : List Value) (hs : a.eval s = v) (hown : w.ownsRow B e 1 v n xs) (u : Value) (hx : a.eval x = u) (bs : List UInt8) (hb : RB w u bs) (h63 : n + bs.length ≤ 140737488355328) (hbase : B ≤ w.heap.size)
    (h : ∀ v' w', w'.ownsRow B e 1 v' (n + bs.length) (xs ++ BC bs) → w.grownBy w' v.ownBlock → (v'.ownBlock = v.ownBlock ∨ v'.ownBlock = some w.heap.size) → wpList P ops Q rest (a.put o.dst v') w') : wpList P ops Q (o :: rest) a w := by
  refine wpList_plain hgd fun _ hK => ?_
  obtain ⟨v', w', hrun, h1, h2, h3⟩ := run_append_bytes (P := P) (w := w) B t o.type e i z ht hi hz hsize hby hzs v n xs hown u bs hb h63 hbase
  unfold Oper.wp
  simp [execOp, ho, resolve, invoke, builtin, hs, hx, hrun, Result.andThen]
  exact hK _ _ (h v' w' h1 h2 h3)
end

theorem clone_any (v : Value) (bs : List UInt8) (w : World) (hv : RB w v bs) (hl : bs.length ≤ 140737488355328) :
    Calls Try.prog 41 #[v] w fun e w' => ∃ a c, e = .returned (.slice a bs.length c) ∧ OwnB w.heap.size w' (.slice a bs.length c) bs ∧ Only Nil w w' := by
  have hv' := hv
  obtain ⟨A, c, rfl, hc, hr⟩ := hv
  cases A with
  | none =>
    have h0 : bs = [] := List.eq_nil_of_length_eq_zero (by
      rcases Nat.eq_zero_or_pos bs.length with h | h
      · exact h
      · obtain ⟨g, o, e, _⟩ := hr h
        cases e)
    subst h0
    clear hv' hr
    have hq := fun W => Lib.run_eql_slice_nil_nil (P := Try.prog) W 0 c Try.underlying39
    go_enter Try.func41, Try.ntmps41
    go_wp2
    go_ret
    exact ⟨none, 0, rfl, ⟨rfl, .inl ⟨rfl, rfl⟩⟩, Only.refl _ _⟩
  | some a =>
    have hq := fun W => Lib.run_eql_slice_some_nil (P := Try.prog) W a bs.length c Try.underlying39
    obtain ⟨ib, hib, hbz, hbs, hbb⟩ := info_parts info_byte
    have HB := Lib.hid hv'
    clear hv' hr
    obtain ⟨n, hn⟩ : ∃ b, w.heap.size = b := ⟨_, rfl⟩
    have hrow : (w.alloc (.cells #[] 5)).ownsRow n 5 1 (.slice (some ⟨n, 0, none⟩) 0 0) 0 [] := ⟨rfl, .inr ⟨n, 0, #[], rfl, Nat.le_refl _, hn ▸ heap_alloc_new w _, Nat.le_refl _, by decide, rfl, rfl⟩⟩
    have HR := Lib.hid hrow
    have HN := Lib.hid hn
    clear hrow
    go_enter Try.func41, Try.ntmps41
    go_wp2_with ((with_reducible show wpList _ _ _ (Oper.mk _ (.call { callee := .builtin .append, args := _, argTypes := _ }) _ _ _ _ :: _) _ _); refine wpList_append_bytes rfl (.tmp 5) (.tmp 6) 39 rfl n 5 ib (.int .u8 0) Try.underlying39 hib hbz hbs hbb rfl (.slice (some ⟨n, 0, none⟩) 0 0) 0 [] (by rw [← hn]; rfl) HR.out (.slice (some a) bs.length c) rfl bs (HB.out.alloc _) (by omega) (by simp; omega) ?_; intro v' w3 hw1 hw2 hw3)
    go_ret
    have hw4 : OwnB n w3 v' bs := by simpa [OwnB] using hw1
    obtain ⟨A, c', rfl, _⟩ := ownN_form hw4
    refine ⟨A, c', rfl, by rw [hn]; exact hw4, ?_⟩
    exact ((Only.refl Nil w).alloc _).trans (Only.of_grown (S := fun k => k = n) hw2 fun k hk => .inl (by simpa [Value.ownBlock] using hk.symm)) fun k hk => .inr (by rw [hn, hk]; exact Nat.le_refl _)

structure Did (B : Nat) (w : World) (F : Nat → Prop) (b : Nat) (s' : WS) (w' : World) : Prop where
  wire : ∃ F', IsWire B w' F' b s' ∧ ∀ k, F' k → F k ∨ w.heap.size ≤ k
  only : Only F w w'
section
variable {B : Nat} {w w' w1 : World} {F S : Nat → Prop} {b : Nat} {vw vf : Value} {s s' : WS}
theorem Did.then {w2 : World} {s2 : WS} (h1 : Did B w F b s' w1) (h2 : ∀ F', IsWire B w1 F' b s' → Did B w1 F' b s2 w2) : Did B w F b s2 w2 := by
  obtain ⟨F1, hw, hF⟩ := h1.wire
  obtain ⟨⟨F2, hw2, hF2⟩, ho⟩ := h2 F1 hw
  exact ⟨⟨F2, hw2, fun k hk => (hF2 k hk).elim (hF k) fun h => .inr (Nat.le_trans h1.only.size h)⟩, h1.only.trans ho hF⟩
theorem wire_ne_way : (68 : TypeId) ≠ 56 := by decide
theorem fate_far {v : Value} {l : List Ft} {t : TypeId} {cs : List Value} {g : Nat} (h : OwF B w v l) (hb : Blk w g t cs) (ht : 46 ≠ t) : v.ownBlock ≠ some g := by
  rcases h with ⟨rfl, _⟩ | ⟨k, o, cap, cs', rfl, _, hk, _⟩
  · simp [Value.ownBlock]
  · intro e
    obtain rfl : k = g := Option.some.inj e
    unfold Blk at hb hk
    rw [hb] at hk
    injection hk with hk
    injection hk with _ hk
    exact ht hk.symm
/-- A field of it is set. -/
theorem WireAt.put (h : WireAt B w F b vw vf s) (i : Nat) (x : Value) (s' : WS) (hs : (wcells s vw vf).set i x = wcells s' vw vf) (h1 : s'.ways = s.ways) (h2 : s'.fates = s.fates) : WireAt B (w.setCell ⟨b, i, none⟩ x) F b vw vf s' := by
  have ho : Only (One b) w (w.setCell ⟨b, i, none⟩ x) := (Only.refl _ _).setCell (p := ⟨b, i, none⟩) (.inl (One.self b)) x
  refine ⟨?_, ?_, ?_, ?_, by rw [h1]; exact h.far, by rw [h1]; exact h.foot⟩
  · have := h.blk.set i x
    rwa [hs] at this
  · rw [h1]
    exact ownN_only h.ways ho fun k hk e => ownN_far h.ways h.blk wire_ne_way (by rw [hk, show k = b from e])
  · rw [h2]
    exact h.fates.only ho fun k hk e => fate_far h.fates h.blk (by decide) (by rw [hk, show k = b from e])
  · rw [h1]
    exact fun e he => own_only (h.each e he) ho fun k hk e' => ownN_far (h.each e he) h.blk (by decide) (by rw [hk, show k = b from e'])
theorem IsWire.put (hh : IsWire B w F b s) (ha : WireAt B w F b vw vf s) (i : Nat) (x : Value) (s' : WS) (hs : (wcells s vw vf).set i x = wcells s' vw vf) (h1 : s'.ways = s.ways) (h2 : s'.fates = s.fates) : Did B w F b s' (w.setCell ⟨b, i, none⟩ x) :=
  have ho : Only F w (w.setCell ⟨b, i, none⟩ x) := (Only.refl _ _).setCell (p := ⟨b, i, none⟩) (.inl ha.foot.1) x
  ⟨⟨F, ⟨⟨vw, vf, ha.put i x s' hs h1 h2⟩, fun k hk => ⟨(hh.own k hk).1, Nat.lt_of_lt_of_le (hh.own k hk).2 ho.size⟩, Nat.le_trans hh.base ho.size⟩, fun _ hk => .inl hk⟩, ho⟩
def moveP (s : WS) (n : Int) : WS := { s with now := min (max n s.now) 1125899906842624 }
theorem move_any (h : IsWire B w F b s) (n : Int) (hn : -9223372036854775808 ≤ n ∧ n ≤ 9223372036854775807) : Calls Try.prog 30 #[.pointer (some ⟨b, 0, none⟩), .int .i64 n] w fun e w' => e = .returned (.tuple #[]) ∧ Did B w F b (moveP s n) w' := by
  obtain ⟨vw, vf, hA⟩ := h.at'
  have c0 := hA.c0
  have f0 := hA.blk.free 0
  have HH := Lib.hid h
  have HA := Lib.hid hA
  have HM := Lib.hid (show moveP s n = { s with now := min (max n s.now) 1125899906842624 } from rfl)
  clear h hA
  go_enter Try.func30, Try.ntmps30
  go_wp2
  all_goals
    go_end0
    refine ⟨rfl, ?_⟩
    refine HH.out.put HA.out 0 _ (moveP s n) ?_ rfl rfl
    rw [HM.out]
    unfold wcells
    simp only [List.set_cons_zero]
    congr 2
    omega
end
end Go.Proofs.Ytkkjnembjlgiaaa
