/-
  The document's wire (slipwayref22) in memory; New, Len, Lost, told, sum.
-/
import Derived.Test.YtkkjnembjlgiaaaWo
namespace Go.Proofs.Ytkkjnembjlgiaaa
set_option maxRecDepth 100000
open Go.RowKit

def Wy.cells2 (e : Wy) : List Value := [.int .i64 e.due, .slice e.a e.bs.length e.cap]
def flat2 (l : List Wy) : List Value := l.flatMap Wy.cells2
theorem flat2_len (l : List Wy) : (flat2 l).length = l.length * 2 := by
  induction l with
  | nil => rfl
  | cons x r ih =>
    show (x.cells2 ++ flat2 r).length = (r.length + 1) * 2
    rw [List.length_append, ih, show x.cells2.length = 2 from rfl]
    omega
theorem flat2_get : ∀ (l : List Wy) (j i : Nat), j < l.length → i < 2 → (flat2 l)[j * 2 + i]? = (l.getD j wy0).cells2[i]?
  | [], j, _, hj, _ => absurd hj (Nat.not_lt_zero j)
  | x :: r, 0, i, _, hi => by
    show (x.cells2 ++ flat2 r)[0 * 2 + i]? = _
    rw [Nat.zero_mul, Nat.zero_add, List.getElem?_append_left (by exact hi)]
    rfl
  | x :: r, j + 1, i, hj, hi => by
    show (x.cells2 ++ flat2 r)[(j + 1) * 2 + i]? = _
    have hx : x.cells2.length = 2 := rfl
    rw [List.getElem?_append_right (by rw [hx]; omega), hx, show (j + 1) * 2 + i - 2 = j * 2 + i by omega, flat2_get r j i (by simpa using hj) hi]
    simp [List.getD]
theorem flat2_snoc (l : List Wy) (e : Wy) : flat2 (l ++ [e]) = flat2 l ++ e.cells2 := by simp [flat2]
theorem wy_one2 (e : Wy) : ∀ u ∈ e.cells2, u.oneCell' = true := by
  intro u hu
  simp only [Wy.cells2, List.mem_cons, List.not_mem_nil, or_false] at hu
  rcases hu with rfl | rfl <;> rfl
def OwV (B : Nat) (w : World) (v : Value) (l : List Wy) : Prop := w.ownsRow B 73 2 v l.length (flat2 l)
def vcells (s : WS) (vw vf : Value) : List Value := [.int .i64 s.now, vw, vf, .int .i64 s.lost]
/-- The blocks of frames. -/
def Frs (l : List Wy) : Nat → Prop := fun k => ∃ e ∈ l, e.d.ownBlock = some k
structure VireAt (B : Nat) (w : World) (F : Nat → Prop) (b : Nat) (vw vf : Value) (s : WS) : Prop where
  blk : Blk w b 59 (vcells s vw vf)
  ways : OwV B w vw s.ways
  fates : OwF B w vf s.fates
  each : ∀ e ∈ s.ways, OwnB B w e.d e.bs
  foot : F b ∧ (∀ k, vw.ownBlock = some k → F k) ∧ (∀ k, vf.ownBlock = some k → F k)
structure IsVire (B : Nat) (w : World) (F : Nat → Prop) (b : Nat) (s : WS) : Prop where
  at' : ∃ vw vf, VireAt B w F b vw vf s
  own : ∀ k, F k → B ≤ k ∧ k < w.heap.size
  base : B ≤ w.heap.size
/-- What a call leaves. -/
structure DidV (B : Nat) (w : World) (F : Nat → Prop) (b : Nat) (s s' : WS) (w' : World) : Prop where
  vire : ∃ F', IsVire B w' F' b s' ∧ ∀ k, F' k → F k ∨ w.heap.size ≤ k
  only : Only F w w'
  frs : ∀ k, Frs s'.ways k → Frs s.ways k ∨ w.heap.size ≤ k
section
variable {B : Nat} {w w' w1 w2 : World} {F S : Nat → Prop} {b : Nat} {v vw vf : Value} {s s' s2 : WS} {l : List Wy}
theorem OwV.slice (h : OwV B w v l) : ∃ A cap, v = .slice A l.length cap := by
  rcases h.2 with ⟨h1, h2⟩ | ⟨g, cap, cur, h1, _⟩
  · exact ⟨none, 0, by rw [h1, h2]⟩
  · exact ⟨_, _, h1⟩
theorem OwV.cells {A : Option Addr} {n cap : Nat} (h : OwV B w (.slice A n cap) l) {j : Nat} (hj : j < l.length) : ∃ g, A = some ⟨g, 0, none⟩ ∧ w.cell? ⟨g, j * 2, none⟩ = some (.int .i64 (l.getD j wy0).due) ∧ w.cell? ⟨g, j * 2 + 1, none⟩ = some (.slice (l.getD j wy0).a (l.getD j wy0).bs.length (l.getD j wy0).cap) := by
  rcases h.2 with ⟨_, h0⟩ | ⟨g, c, cur, e1, _⟩
  · omega
  · injection e1 with e1 e2 e3
    subst e1 e2 e3
    refine ⟨g, rfl, ?_, ?_⟩
    · have := World.ownsRow.cells h (g := g) rfl (j * 2 + 0) _ ((flat2_get l j 0 hj (by omega)).trans rfl)
      rwa [Addr.add_mid, Nat.zero_add] at this
    · have := World.ownsRow.cells h (g := g) rfl (j * 2 + 1) _ ((flat2_get l j 1 hj (by omega)).trans rfl)
      rwa [Addr.add_mid, Nat.zero_add] at this
theorem VireAt.only (h : VireAt B w F b vw vf s) (ho : Only S w w') (hS : ∀ k, F k → ¬ S k) (hR : ∀ k, Frs s.ways k → ¬ S k) : VireAt B w' F b vw vf s :=
  ⟨ho.blk h.blk (hS b h.foot.1), ownN_only h.ways ho fun k hk => hS k (h.foot.2.1 k hk), h.fates.only ho fun k hk => hS k (h.foot.2.2 k hk),
    fun e he => own_only (h.each e he) ho fun k hk => hR k ⟨e, he, hk⟩, h.foot⟩
theorem IsVire.only (h : IsVire B w F b s) (ho : Only S w w') (hS : ∀ k, F k → ¬ S k) (hR : ∀ k, Frs s.ways k → ¬ S k) : IsVire B w' F b s := by
  obtain ⟨vw, vf, hA⟩ := h.at'
  exact ⟨⟨vw, vf, hA.only ho hS hR⟩, fun k hk => ⟨(h.own k hk).1, Nat.lt_of_lt_of_le (h.own k hk).2 ho.size⟩, Nat.le_trans h.base ho.size⟩
theorem IsVire.nil (h : IsVire B w F b s) (ho : Only Nil w w') : IsVire B w' F b s := h.only ho (fun _ _ e => e) fun _ _ e => e
theorem VireAt.nil (h : VireAt B w F b vw vf s) (ho : Only Nil w w') : VireAt B w' F b vw vf s := h.only ho (fun _ _ e => e) fun _ _ e => e
theorem IsVire.frs (h : IsVire B w F b s) {k : Nat} (hk : Frs s.ways k) : (B ≤ k ∧ k < w.heap.size) ∧ ∃ cs, Blk w k 5 cs := by
  obtain ⟨vw, vf, hA⟩ := h.at'
  obtain ⟨e, he, hk⟩ := hk
  have h2 := hA.each e he
  exact ⟨own_block h2 k hk, blk_of_own h2 hk⟩
/-- What it writes has these types. -/
def VireT (t : TypeId) : Prop := t = 59 ∨ t = 73 ∨ t = 46
def TightV (F : Nat → Prop) (W : World) : Nat → Prop := fun k => F k ∧ ∃ t cs, Blk W k t cs ∧ VireT t
theorem IsVire.tight (h : IsVire B w F b s) : IsVire B w (TightV F w) b s := by
  obtain ⟨vw, vf, hA⟩ := h.at'
  refine ⟨⟨vw, vf, hA.blk, hA.ways, hA.fates, hA.each, ⟨hA.foot.1, _, _, hA.blk, .inl rfl⟩, fun k hk => ⟨hA.foot.2.1 k hk, ?_⟩, fun k hk => ⟨hA.foot.2.2 k hk, ?_⟩⟩, fun k hk => h.own k hk.1, h.base⟩
  · obtain ⟨cs, hb⟩ := blk_of_own hA.ways hk
    exact ⟨_, cs, hb, .inr (.inl rfl)⟩
  · rcases hA.fates with ⟨rfl, _⟩ | ⟨g, o, cap, cs, rfl, _, hg, _⟩
    · cases hk
    · obtain rfl : g = k := Option.some.inj hk
      exact ⟨_, cs, hg, .inr (.inr rfl)⟩
theorem tightV_far {t : TypeId} {cs : List Value} {k : Nat} (hb : Blk w k t cs) (ht : ¬ VireT t) : ¬ TightV F w k := fun ⟨_, t', cs', hb', ht'⟩ => ht (by rw [blk_type hb hb']; exact ht')
theorem DidV.tight (h : DidV B w F b s s' w') : ∃ F', IsVire B w' F' b s' ∧ (∀ k, F' k → F k ∨ w.heap.size ≤ k) ∧ ∀ k, F' k → ¬ Frs s'.ways k := by
  obtain ⟨F', h1, h2⟩ := h.vire
  refine ⟨_, h1.tight, fun k hk => h2 k hk.1, fun k hk hf => ?_⟩
  obtain ⟨_, cs, hb⟩ := h1.frs hf
  exact tightV_far hb (by unfold VireT; decide) hk
theorem DidV.nil (h : IsVire B w F b s) (ho : Only Nil w w') : DidV B w F b s s w' := ⟨⟨F, h.nil ho, fun _ hk => .inl hk⟩, ho.mono fun _ _ e => e.elim, fun _ h => .inl h⟩
theorem DidV.then (h1 : DidV B w F b s s' w1) (h2 : ∀ F', IsVire B w1 F' b s' → DidV B w1 F' b s' s2 w2) : DidV B w F b s s2 w2 := by
  obtain ⟨F1, hw, hF⟩ := h1.vire
  obtain ⟨⟨F2, hw2, hF2⟩, ho, hr⟩ := h2 F1 hw
  exact ⟨⟨F2, hw2, fun k hk => (hF2 k hk).elim (hF k) fun h => .inr (Nat.le_trans h1.only.size h)⟩, h1.only.trans ho hF, fun k hk => (hr k hk).elim (h1.frs k) fun h => .inr (Nat.le_trans h1.only.size h)⟩
theorem DidV.from' {F' : Nat → Prop} {s1 : WS} (ho : Only F w w1) (hF : ∀ k, F' k → F k ∨ w.heap.size ≤ k) (hR : ∀ k, Frs s1.ways k → Frs s.ways k ∨ w.heap.size ≤ k) (hd : DidV B w1 F' b s1 s' w') : DidV B w F b s s' w' := by
  obtain ⟨F2, h, hF2⟩ := hd.vire
  exact ⟨⟨F2, h, fun k hk => (hF2 k hk).elim (hF k) fun h => .inr (Nat.le_trans ho.size h)⟩, ho.trans hd.only hF, fun k hk => (hd.frs k hk).elim (hR k) fun h => .inr (Nat.le_trans ho.size h)⟩
/-- A field of it is set. -/
theorem VireAt.put (h : VireAt B w F b vw vf s) (i : Nat) (x : Value) (s' : WS) (hs : (vcells s vw vf).set i x = vcells s' vw vf) (h1 : s'.ways = s.ways) (h2 : s'.fates = s.fates) : VireAt B (w.setCell ⟨b, i, none⟩ x) F b vw vf s' := by
  have ho : Only (One b) w (w.setCell ⟨b, i, none⟩ x) := (Only.refl _ _).setCell (p := ⟨b, i, none⟩) (.inl (One.self b)) x
  refine ⟨?_, ?_, ?_, ?_, h.foot⟩
  · have := h.blk.set i x
    rwa [hs] at this
  · rw [h1]
    exact ownN_only h.ways ho fun k hk e => ownN_far h.ways h.blk (by decide) (by rw [hk, show k = b from e])
  · rw [h2]
    exact h.fates.only ho fun k hk e => fate_far h.fates h.blk (by decide) (by rw [hk, show k = b from e])
  · rw [h1]
    exact fun e he => own_only (h.each e he) ho fun k hk e' => ownN_far (h.each e he) h.blk (by decide) (by rw [hk, show k = b from e'])
theorem IsVire.put (hh : IsVire B w F b s) (ha : VireAt B w F b vw vf s) (i : Nat) (x : Value) (s' : WS) (hs : (vcells s vw vf).set i x = vcells s' vw vf) (h1 : s'.ways = s.ways) (h2 : s'.fates = s.fates) : DidV B w F b s s' (w.setCell ⟨b, i, none⟩ x) :=
  have ho : Only F w (w.setCell ⟨b, i, none⟩ x) := (Only.refl _ _).setCell (p := ⟨b, i, none⟩) (.inl ha.foot.1) x
  ⟨⟨F, ⟨⟨vw, vf, ha.put i x s' hs h1 h2⟩, fun k hk => ⟨(hh.own k hk).1, Nat.lt_of_lt_of_le (hh.own k hk).2 ho.size⟩, Nat.le_trans hh.base ho.size⟩, fun _ hk => .inl hk⟩, ho, fun _ h => .inl (by rwa [h1] at h)⟩
theorem VireAt.c0 (h : VireAt B w F b vw vf s) : w.cell? ⟨b, 0, none⟩ = some (.int .i64 s.now) := h.blk.cell 0
theorem VireAt.c1 (h : VireAt B w F b vw vf s) : w.cell? ⟨b, 1, none⟩ = some vw := h.blk.cell 1
theorem VireAt.c2 (h : VireAt B w F b vw vf s) : w.cell? ⟨b, 2, none⟩ = some vf := h.blk.cell 2
theorem VireAt.c3 (h : VireAt B w F b vw vf s) : w.cell? ⟨b, 3, none⟩ = some (.int .i64 s.lost) := h.blk.cell 3
theorem rlen_any (h : IsVire B w F b s) : Calls Try.prog 26 #[.pointer (some ⟨b, 0, none⟩)] w fun e w' => e = .returned (.int .i64 (s.ways.length : Int)) ∧ w' = w := by
  obtain ⟨vw, vf, hA⟩ := h.at'
  have c1 := hA.c1
  obtain ⟨A, cap, rfl⟩ := hA.ways.slice
  clear hA h
  go_enter Try.func26, Try.ntmps26
  go_wp2
  go_ret
  exact ⟨rfl, rfl⟩
theorem rlost_any (h : IsVire B w F b s) : Calls Try.prog 27 #[.pointer (some ⟨b, 0, none⟩)] w fun e w' => e = .returned (.int .i64 s.lost) ∧ w' = w := by
  obtain ⟨vw, vf, hA⟩ := h.at'
  have c3 := hA.c3
  clear hA h
  go_enter Try.func27, Try.ntmps27
  go_wp2
  go_ret
  exact ⟨rfl, rfl⟩
theorem rnew_any (w : World) (B : Nat) (hB : B ≤ w.heap.size) : Calls Try.prog 9 #[] w fun e w' => ∃ b F, e = .returned (.pointer (some ⟨b, 0, none⟩)) ∧ IsVire B w' F b ws0 ∧ Only Nil w w' ∧ ∀ k, F k → w.heap.size ≤ k := by
  have HB := Lib.hid hB
  clear hB
  obtain ⟨n, hn⟩ : ∃ b, w.heap.size = b := ⟨_, rfl⟩
  go_enter Try.func9, Try.ntmps9
  go_wp2
  go_ret
  refine ⟨n, One n, by rw [← hn]; rfl, ⟨⟨.slice none 0 0, .slice none 0 0, hn ▸ Blk.new w _ _, ⟨rfl, .inl ⟨rfl, rfl⟩⟩, .inl ⟨rfl, rfl⟩, fun e h => (by cases h), ⟨rfl, fun k h => (by cases h), fun k h => (by cases h)⟩⟩, fun k hk => ?_, ?_⟩, (Only.refl _ _).alloc _, fun k hk => by rw [show k = n from hk]; omega⟩
  · rw [show k = n from hk, World.size_alloc]
    have := HB.out
    omega
  · rw [World.size_alloc]
    have := HB.out
    omega
theorem rsum_any (t k : Int) (h0 : 0 ≤ t) (h1 : t ≤ 1125899906842624) (w : World) : Calls Try.prog 36 #[.int .i64 t, .int .i64 k] w fun e w' => e = .returned (.int .i64 (sumZ t k)) ∧ w' = w := by
  have HZ := Lib.hid (show sumZ t k = t + min (max k 0) (1125899906842624 - t) from rfl)
  go_enter Try.func36, Try.ntmps36
  go_wp2
  all_goals
    go_ret
    exact ⟨congrArg (fun z => Ending.returned (.int .i64 z)) (by rw [HZ.out]; omega), rfl⟩
theorem told_any (h : IsVire B w F b s) (hf : s.now ≤ 1125899906842624) (n : Int) : Calls Try.prog 35 #[.pointer (some ⟨b, 0, none⟩), .int .i64 n] w fun e w' => e = .returned (.tuple #[]) ∧ DidV B w F b s (moveP s n) w' := by
  obtain ⟨vw, vf, hA⟩ := h.at'
  have c0 := hA.c0
  have f0 := hA.blk.free 0
  have HH := Lib.hid h
  have HA := Lib.hid hA
  clear h hA
  obtain ⟨m, hm⟩ : ∃ m, min n 1125899906842624 = m := ⟨_, rfl⟩
  have HM := Lib.hid (show moveP s n = { s with now := max m s.now } by
    unfold moveP
    congr 1
    omega)
  by_cases d1 : n > 1125899906842624
  · obtain rfl : m = 1125899906842624 := by omega
    by_cases d2 : 1125899906842624 > s.now
    · have HZ := Lib.hid (show max 1125899906842624 s.now = 1125899906842624 by omega)
      clear hm
      go_enter Try.func35, Try.ntmps35
      go_wp2
      go_end0
      refine ⟨rfl, ?_⟩
      rw [HM.out, HZ.out]
      exact HH.out.put HA.out 0 _ _ rfl rfl rfl
    · have HZ := Lib.hid (show max 1125899906842624 s.now = s.now by omega)
      clear hm
      go_enter Try.func35, Try.ntmps35
      go_wp2
      go_end0
      refine ⟨rfl, ?_⟩
      rw [HM.out, HZ.out]
      exact DidV.nil HH.out (Only.refl _ _)
  · obtain rfl : m = n := by omega
    by_cases d2 : m > s.now
    · have HZ := Lib.hid (show max m s.now = m by omega)
      clear hm
      go_enter Try.func35, Try.ntmps35
      go_wp2
      go_end0
      refine ⟨rfl, ?_⟩
      rw [HM.out, HZ.out]
      exact HH.out.put HA.out 0 _ _ rfl rfl rfl
    · have HZ := Lib.hid (show max m s.now = s.now by omega)
      clear hm
      go_enter Try.func35, Try.ntmps35
      go_wp2
      go_end0
      refine ⟨rfl, ?_⟩
      rw [HM.out, HZ.out]
      exact DidV.nil HH.out (Only.refl _ _)
end
end Go.Proofs.Ytkkjnembjlgiaaa
