/-
  WirePlays: stands (2): the lists are written over and grown (lemmas).
-/
import Derived.Test.YtkkjnembjlgiaaaVo
namespace Go.Proofs.Ytkkjnembjlgiaaa
set_option maxRecDepth 100000
open Go.RowKit

/-- Three bytes: a list's number, a place. -/
def three (i j : Nat) : List UInt8 := [UInt8.ofNat i, UInt8.ofNat (i / 256), UInt8.ofNat j]
def Three (W : World) (u : Value) (i j : Nat) : Prop := ∃ b, u = .slice (some ⟨b, 0, none⟩) 3 3 ∧ Blk W b 5 (BC (three i j))
def R3 (B : Nat) (W : World) (v : Value) (i n : Nat) : Prop := ∃ us, W.ownsRow B 39 1 v n us ∧ us.length = n ∧ ∀ j u, us[j]? = some u → Three W u i j
def Done3 (B : Nat) (W : World) (i : Nat) (l : Value) (len : Nat) (g : Value) (m : Nat) : Prop :=
  R3 B W g i (len + m) ∧ ((∃ b c, l = .slice (some ⟨b, 0, none⟩) len c ∧ g = .slice (some ⟨b, 0, none⟩) (len + m) c) ∨ (R3 B W l i len ∧ ∀ k, l.ownBlock = some k → g.ownBlock ≠ some k))
structure St3 (B N : Nat) (kb bk : Nat) (vl vw : Value) (ks : List Ke) (lo i : Nat) (gs : List Value) (vg : Value) (R : Nat → Nat → Prop) (W : World) : Prop where
  blk : Blk W kb 37 [.pointer (some ⟨bk, 0, none⟩), vl, vw]
  lists : W.ownsRow B 31 1 vl ks.length (ks.map Ke.l)
  grown : W.ownsRow N 31 1 vg i gs
  one : ∀ k j j', R k j → R k j' → j = j'
  later : ∀ j e, lo ≤ j → ks[j]? = some e → (∃ us, W.ownsRow B 39 1 e.l e.es.length us) ∧ ∀ k, e.l.ownBlock = some k → R k j
  done : ∀ j e g, j < i → ks[j]? = some e → gs[j]? = some g → Done3 B W j e.l e.es.length g 9 ∧ ∀ k, e.l.ownBlock = some k ∨ g.ownBlock = some k → R k j
  ne : ∀ k, vg.ownBlock = some k → vl.ownBlock ≠ some k
def NoU (S : Nat → Prop) (W : World) : Prop := ∀ k cs, Blk W k 5 cs → ¬ S k
theorem three_BC (i j : Nat) : BC (three i j) = [.int .u8 ((i : Int) % 256), .int .u8 ((i : Int) / 256 % 256), .int .u8 ((j : Int) % 256)] := by
  unfold three BC
  simp only [List.map_cons, List.map_nil, by8_ofNat]
  rfl
section
variable {B N : Nat} {W W' W1 W2 : World} {S : Nat → Prop} {R : Nat → Nat → Prop} {kb bk lo i n m q len : Nat} {vl vw vg v g l : Value} {ks : List Ke} {gs : List Value}
theorem NoU.rows (hS : ∀ k, S k → k < W.heap.size → ∃ cs, Blk W k 39 cs) : NoU S W := fun k cs hb hs => by
  obtain ⟨cs', hb'⟩ := hS k hs hb.lt
  exact absurd (blk_type hb hb') (by decide)
theorem NoU.nil : NoU Nil W := fun _ _ _ e => e
theorem NoU.rows3 {x : Nat} {xs : List Value} (h : W.ownsRow N 31 1 vg x xs) : NoU (fun k => vg.ownBlock = some k) W := fun k cs hb hs => by
  obtain ⟨cs', hb'⟩ := blk_of_own h hs
  exact absurd (blk_type hb hb') (by decide)
theorem Three.keep {u : Value} {j : Nat} (h : Three W u i j) (ho : Only S W W') (hu : NoU S W) : Three W' u i j := by
  obtain ⟨b, e, hb⟩ := h
  exact ⟨b, e, ho.blk hb (hu b _ hb)⟩
theorem R3.keep (h : R3 B W v i n) (ho : Only S W W') (hS : ∀ k, v.ownBlock = some k → ¬ S k) (hu : NoU S W) : R3 B W' v i n := by
  obtain ⟨us, h1, h2, h3⟩ := h
  exact ⟨us, own_only h1 ho hS, h2, fun j u hj => (h3 j u hj).keep ho hu⟩
theorem R3.blks (h : R3 B W v i n) {k : Nat} (hk : v.ownBlock = some k) : ∃ cs, Blk W k 39 cs := by
  obtain ⟨us, h1, _⟩ := h
  exact blk_of_own h1 hk
theorem R3.pre {b c : Nat} (h : R3 B W (.slice (some ⟨b, 0, none⟩) (m + q) c) i (m + q)) : R3 B W (.slice (some ⟨b, 0, none⟩) m c) i m := by
  obtain ⟨us, h1, h2, h3⟩ := h
  refine ⟨us.take m, ⟨by rw [List.length_take, Nat.mul_one]; omega, ?_⟩, by rw [List.length_take]; omega, fun j u hj => h3 j u ?_⟩
  · rcases h1.2 with ⟨e, _⟩ | ⟨k, cap, cur, hv, hB, hg, hc, hm, hs, ht⟩
    · cases e
    · injection hv with e1 e2 e3
      refine .inr ⟨k, cap, cur, by rw [e1, e3], hB, hg, by omega, hm, hs, ?_⟩
      rw [← ht, List.take_take, Nat.mul_one, Nat.mul_one, Nat.min_eq_left (by omega)]
  · rw [List.getElem?_take] at hj
    split at hj
    · exact hj
    · cases hj
theorem Done3.blks (h : Done3 B W i l len g m) {k : Nat} (hk : l.ownBlock = some k ∨ g.ownBlock = some k) : ∃ cs, Blk W k 39 cs := by
  rcases hk with hk | hk
  · rcases h.2 with ⟨b, c, e1, e2⟩ | h2
    · refine h.1.blks (k := k) ?_
      rw [e2]
      rw [e1] at hk
      exact hk
    · exact h2.1.blks hk
  · exact h.1.blks hk
theorem Done3.keep (h : Done3 B W i l len g m) (ho : Only S W W') (hS : ∀ k, l.ownBlock = some k ∨ g.ownBlock = some k → ¬ S k) (hu : NoU S W) : Done3 B W' i l len g m :=
  ⟨h.1.keep ho (fun k hk => hS k (.inr hk)) hu, h.2.imp id fun h => ⟨h.1.keep ho (fun k hk => hS k (.inl hk)) hu, h.2⟩⟩
theorem Done3.zero (h : R3 B W l i len) : Done3 B W i l len l 0 := by
  refine ⟨h, ?_⟩
  have h0 := h
  obtain ⟨us, h1, _⟩ := h0
  rcases h1.2 with ⟨e, _⟩ | ⟨g, cap, cur, e, _⟩
  · refine .inr ⟨h, fun k hk => ?_⟩
    rw [e] at hk
    cases hk
  · exact .inl ⟨g, cap, e, e⟩
/-- One place more. -/
theorem Done3.grew {gg cap : Nat} {us : List Value} {u : Value} (h : Done3 B W i l len g q) (hus : us.length = len + q ∧ ∀ j u, us[j]? = some u → Three W u i j) (h1 : Only Nil W W1) (hg : Grew2 W1 W2 B 39 g (len + q) 1 us [u] gg cap) (hgr : W.ownsRow B 39 1 g (len + q) us) (hu : Three W1 u i (len + q)) :
    Done3 B W2 i l len (.slice (some ⟨gg, 0, none⟩) (len + q + 1) cap) (q + 1) ∧ Only (fun k => g.ownBlock = some k) W W2 ∧ (g.ownBlock = some gg ∨ W.heap.size ≤ gg) := by
  have hO : Only (fun k => g.ownBlock = some k) W1 W2 := Only.of_grown hg.1.grown fun k hk => .inl hk
  have ho := (h1.mono (T := fun k => g.ownBlock = some k) fun _ _ e => e.elim).then hO
  have hgr1 := own_only hgr h1 fun _ _ e => e
  have hN : NoU (fun k => g.ownBlock = some k) W1 := NoU.rows fun k hk _ => blk_of_own hgr1 hk
  have hN0 : NoU (fun k => g.ownBlock = some k) W := NoU.rows fun k hk _ => blk_of_own hgr hk
  have hown : R3 B W2 (.slice (some ⟨gg, 0, none⟩) (len + q + 1) cap) i (len + (q + 1)) := by
    refine ⟨us ++ [u], by rw [← Nat.add_assoc]; exact hg.1.own, by rw [List.length_append, hus.1]; rfl, fun j u' hj => ?_⟩
    by_cases hj2 : j < us.length
    · rw [List.getElem?_append_left hj2] at hj
      exact ((hus.2 j u' hj).keep h1 NoU.nil).keep hO hN
    · rw [List.getElem?_append_right (by omega)] at hj
      have hj3 : j - us.length = 0 := by
        have := (List.getElem?_eq_some_iff.1 hj).1
        simp at this
        omega
      rw [hj3] at hj
      obtain rfl : u = u' := by simpa using hj
      have : j = len + q := by omega
      rw [this]
      exact hu.keep hO hN
  have hat : g.ownBlock = some gg ∨ W.heap.size ≤ gg := hg.1.at'.imp id fun e => by rw [e]; exact h1.size
  refine ⟨⟨hown, ?_⟩, ho, hat⟩
  rcases hg.2 with e | ⟨hn, hnil⟩
  · rcases h.2 with ⟨b, c, e1, e2⟩ | ⟨h2, h3⟩
    · rw [e] at e2
      injection e2 with e3 _ e5
      injection e3 with e3
      injection e3 with e3
      subst e3 e5
      exact .inl ⟨_, _, e1, rfl⟩
    · exact .inr ⟨h2.keep ho (fun k hk e4 => h3 k hk e4) hN0, fun k hk e4 => h3 k hk (by rw [e]; exact e4)⟩
  · have h2 : R3 B W l i len := by
      rcases h.2 with ⟨b, c, e1, e2⟩ | ⟨h2, _⟩
      · have := h.1
        rw [e2] at this
        rw [e1]
        exact this.pre
      · exact h2
    refine .inr ⟨(h2.keep h1 (fun _ _ e => e) NoU.nil).keep hnil (fun _ _ e => e) NoU.nil, fun k hk e4 => ?_⟩
    obtain ⟨cs, hb⟩ := h2.blks hk
    have h5 : gg = k := Option.some.inj e4
    have h6 := hb.lt
    have h7 := h1.size
    omega
theorem St3.next (h : St3 B N kb bk vl vw ks lo i gs vg R W) : St3 B N kb bk vl vw ks lo i gs vg (Next R W.heap.size m) W :=
  ⟨h.blk, h.lists, h.grown, Next.one h.one, fun j x hj hx => ⟨(h.later j x hj hx).1, fun k hk => .inl ⟨by obtain ⟨us, hu⟩ := (h.later j x hj hx).1; exact (own_block hu k hk).2, (h.later j x hj hx).2 k hk⟩⟩,
    fun j x g hj hx hg => ⟨(h.done j x g hj hx hg).1, fun k hk => .inl ⟨by obtain ⟨cs, hb⟩ := (h.done j x g hj hx hg).1.blks hk; exact hb.lt, (h.done j x g hj hx hg).2 k hk⟩⟩, h.ne⟩
theorem St3.mono (h : St3 B N kb bk vl vw ks lo i gs vg R W) (hl : lo ≤ n) : St3 B N kb bk vl vw ks n i gs vg R W :=
  ⟨h.blk, h.lists, h.grown, h.one, fun j x hj hx => h.later j x (Nat.le_trans hl hj) hx, h.done, h.ne⟩
theorem St3.nil (h : St3 B N kb bk vl vw ks lo i gs vg R W) (ho : Only Nil W W') : St3 B N kb bk vl vw ks lo i gs vg R W' :=
  ⟨ho.blk h.blk id, own_only h.lists ho fun _ _ e => e, own_only h.grown ho fun _ _ e => e, h.one, fun j x hj hx => ⟨by obtain ⟨us, hu⟩ := (h.later j x hj hx).1; exact ⟨us, own_only hu ho fun _ _ e => e⟩, (h.later j x hj hx).2⟩,
    fun j x g hj hx hg => ⟨(h.done j x g hj hx hg).1.keep ho (fun _ _ e => e) NoU.nil, (h.done j x g hj hx hg).2⟩, h.ne⟩
/-- The round's own list is written. -/
theorem St3.step (h : St3 B N kb bk vl vw ks (i + 1) i gs vg R W) (ho : Only S W W') (hS : ∀ k, S k → k < W.heap.size → ∃ cs, Blk W k 39 cs) (hR : ∀ k, S k → R k i) : St3 B N kb bk vl vw ks (i + 1) i gs vg R W' := by
  have far3 : ∀ {B' : Nat} {v : Value} {x : Nat} {xs : List Value}, W.ownsRow B' 31 1 v x xs → ∀ k, v.ownBlock = some k → ¬ S k := fun hr k hk hs => by
    obtain ⟨cs, hb⟩ := blk_of_own hr hk
    obtain ⟨cs', hb'⟩ := hS k hs hb.lt
    exact absurd (blk_type hb hb') (by decide)
  refine ⟨ho.blk h.blk (fun hs => by obtain ⟨cs, hb⟩ := hS kb hs h.blk.lt; exact absurd (blk_type h.blk hb) (by decide)), own_only h.lists ho (far3 h.lists), own_only h.grown ho (far3 h.grown), h.one,
    fun j x hj hx => ⟨?_, (h.later j x hj hx).2⟩, fun j x g hj hx hg => ⟨(h.done j x g hj hx hg).1.keep ho (fun k hk hs => ?_) (NoU.rows hS), (h.done j x g hj hx hg).2⟩, h.ne⟩
  · obtain ⟨us, hu⟩ := (h.later j x hj hx).1
    exact ⟨us, own_only hu ho fun k hk hs => by
      have := h.one k _ _ ((h.later j x hj hx).2 k hk) (hR k hs)
      omega⟩
  · have := h.one k _ _ ((h.done j x g hj hx hg).2 k hk) (hR k hs)
    omega
/-- The list that was grown is put behind the others. -/
theorem St3.push {e : Ke} {gg cap : Nat} (h : St3 B N kb bk vl vw ks (i + 1) i gs vg R W) (hx : ks[i]? = some e) (hd : Done3 B W i e.l e.es.length g 9) (hr : ∀ k, e.l.ownBlock = some k ∨ g.ownBlock = some k → R k i) (h1 : Only Nil W W1) (hg : Grew W1 W2 N 31 vg i 1 gs [g] gg cap) :
    St3 B N kb bk vl vw ks (i + 1) (i + 1) (gs ++ [g]) (.slice (some ⟨gg, 0, none⟩) (i + 1) cap) R W2 ∧ Only (fun k => vg.ownBlock = some k) W W2 := by
  have hO : Only (fun k => vg.ownBlock = some k) W1 W2 := Only.of_grown hg.grown fun k hk => .inl hk
  have ho := (h1.mono (T := fun k => vg.ownBlock = some k) fun _ _ e => e.elim).then hO
  have hbk : ∀ k, (∃ cs, Blk W k 39 cs) → ¬ vg.ownBlock = some k := fun k hb hk => by
    obtain ⟨cs, hb⟩ := hb
    obtain ⟨cs', hb'⟩ := blk_of_own h.grown hk
    exact absurd (blk_type hb hb') (by decide)
  have hN : NoU (fun k => vg.ownBlock = some k) W := NoU.rows3 h.grown
  have hlen : gs.length = i := by
    have := h.grown.1
    omega
  have hl1 := own_only h.lists h1 fun _ _ e => e
  refine ⟨⟨ho.blk h.blk (ownN_far h.grown h.blk (by decide)), own_only h.lists ho fun k hk hs => h.ne k hs hk, hg.own, h.one, fun j y hj hy => ⟨?_, (h.later j y hj hy).2⟩, fun j y gv hj hy hgv => ?_, fun k hk => ?_⟩, ho⟩
  · obtain ⟨us, hu⟩ := (h.later j y hj hy).1
    exact ⟨us, own_only hu ho fun k hk => hbk k (blk_of_own hu hk)⟩
  · by_cases hji : j < i
    · rw [List.getElem?_append_left (by omega)] at hgv
      exact ⟨(h.done j y gv hji hy hgv).1.keep ho (fun k hk => hbk k ((h.done j y gv hji hy hgv).1.blks hk)) hN, (h.done j y gv hji hy hgv).2⟩
    · obtain rfl : j = i := by omega
      rw [List.getElem?_append_right (by omega), hlen, Nat.sub_self] at hgv
      obtain rfl : g = gv := by simpa using hgv
      obtain rfl : e = y := by rw [hx] at hy; exact Option.some.inj hy
      exact ⟨hd.keep ho (fun k hk => hbk k (hd.blks hk)) hN, hr⟩
  · obtain rfl : gg = k := Option.some.inj hk
    rcases hg.at' with h2 | h2
    · exact h.ne gg h2
    · intro h3
      have := (own_block hl1 gg h3).2
      omega
theorem St3.grew {gg cap : Nat} {us : List Value} {u : Value} (h : St3 B N kb bk vl vw ks (i + 1) i gs vg R W) (hd : Done3 B W i l len g q) (hr : ∀ k, g.ownBlock = some k → R k i) (hus : us.length = len + q ∧ ∀ j u, us[j]? = some u → Three W u i j) (h1 : Only Nil W W1) (hg : Grew2 W1 W2 B 39 g (len + q) 1 us [u] gg cap) (hgr : W.ownsRow B 39 1 g (len + q) us) (hu : Three W1 u i (len + q)) :
    St3 B N kb bk vl vw ks (i + 1) i gs vg R W2 ∧ Done3 B W2 i l len (.slice (some ⟨gg, 0, none⟩) (len + q + 1) cap) (q + 1) ∧ Only (fun k => g.ownBlock = some k) W W2 ∧ (g.ownBlock = some gg ∨ W.heap.size ≤ gg) := by
  obtain ⟨a, b, c⟩ := hd.grew hus h1 hg hgr hu
  exact ⟨h.step b (fun k hk _ => hd.blks (.inr hk)) hr, a, b, c⟩
/-- A place of a row is set. -/
theorem row_put {A : Option Addr} {m cx j : Nat} {us : List Value} (h : W.ownsRow B 39 1 (.slice A m cx) m us) (hj : j < m) (u : Value) :
    ∃ b, A = some ⟨b, 0, none⟩ ∧ W.cell? ⟨b, j, none⟩ = some (us.getD j undef) ∧ W.frozen? ⟨b, j, none⟩ = false ∧ (W.setCell ⟨b, j, none⟩ u).ownsRow B 39 1 (.slice A m cx) m (us.set j u) := by
  obtain ⟨g, cap, e1, _, _, _, hc⟩ := own_form h (by omega)
  injection e1 with e1 _ e3
  subst e1 e3
  obtain ⟨cs, hb⟩ := blk_of_own h (k := g) rfl
  refine ⟨g, rfl, hc j hj, hb.free j, by rw [List.length_set]; exact h.1, ?_⟩
  rcases h.2 with ⟨h1, _⟩ | ⟨k, c, cur, hv, hB, hg, hc, hm, hs, ht⟩
  · cases h1
  · injection hv with e1 e2 e3
    injection e1 with e1
    injection e1 with e1
    subst e1 e3
    have hb : Blk W g 39 cur.toList := by unfold Blk; simpa using hg
    have hb2 := hb.set j u
    refine .inr ⟨g, cx, (cur.toList.set j u).toArray, rfl, hB, hb2, hc, hm, by simpa using hs, ?_⟩
    rw [List.take_set, ht]
/-- A list that is written over as far as place j. -/
def Half3 (B : Nat) (W : World) (v : Value) (i n j : Nat) : Prop := ∃ us, W.ownsRow B 39 1 v n us ∧ us.length = n ∧ ∀ p u, p < j → us[p]? = some u → Three W u i p
theorem Half3.full (h : Half3 B W v i n n) : R3 B W v i n := by
  obtain ⟨us, h1, h2, h3⟩ := h
  exact ⟨us, h1, h2, fun j u hj => h3 j u (by have := (List.getElem?_eq_some_iff.1 hj).1; omega) hj⟩
theorem Half3.put {A : Option Addr} {cx j : Nat} {u : Value} (h : Half3 B W (.slice A n cx) i n j) (hj : j < n) (h1 : Only Nil W W1) (hu : Three W1 u i j) :
    ∃ b, A = some ⟨b, 0, none⟩ ∧ (∃ o, W1.cell? ⟨b, j, none⟩ = some o) ∧ W1.frozen? ⟨b, j, none⟩ = false ∧ Half3 B (W1.setCell ⟨b, j, none⟩ u) (.slice A n cx) i n (j + 1) ∧ Only (One b) W (W1.setCell ⟨b, j, none⟩ u) ∧ (∃ cs, Blk W b 39 cs) := by
  obtain ⟨us, h2, h3, h4⟩ := h
  have h2' := own_only h2 h1 fun _ _ e => e
  obtain ⟨b, rfl, hc, hf, hr⟩ := row_put h2' hj u
  obtain ⟨cs, hb⟩ := blk_of_own h2 (k := b) rfl
  have ho : Only (One b) W1 (W1.setCell ⟨b, j, none⟩ u) := (Only.refl _ _).setCell (p := ⟨b, j, none⟩) (.inl (One.self b)) u
  have hN : NoU (One b) W1 := fun k cs' hb' e => by
    have e' : k = b := e
    subst e'
    exact absurd (blk_type hb' (h1.blk hb id)) (by decide)
  refine ⟨b, rfl, ⟨_, hc⟩, hf, ⟨us.set j u, hr, by rw [List.length_set]; exact h3, fun p u' hp hq => ?_⟩, (h1.mono (T := One b) fun _ _ e => e.elim).then ho, cs, hb⟩
  by_cases hpj : p = j
  · subst hpj
    rw [List.getElem?_set_self (by omega)] at hq
    obtain rfl := Option.some.inj hq
    exact hu.keep ho hN
  · rw [List.getElem?_set_ne (by omega)] at hq
    exact ((h4 p u' (by omega) hq).keep h1 NoU.nil).keep ho hN
/-- Three bytes that are new. -/
theorem Three.new (W : World) (i j : Nat) : Three (W.alloc (.cells (BC (three i j)).toArray 5)) (.slice (some ⟨W.heap.size, 0, none⟩) 3 3) i j := ⟨_, rfl, Blk.new W _ _⟩
theorem Three.reads {u : Value} {j : Nat} (h : Three W u i j) : ∃ b, u = .slice (some ⟨b, 0, none⟩) 3 3 ∧ RB W (.slice (some ⟨b, 0, none⟩) 3 3) (three i j) := by
  obtain ⟨b, rfl, hb⟩ := h
  refine ⟨b, rfl, some ⟨b, 0, none⟩, 3, rfl, Nat.le_refl _, fun _ => ⟨b, 0, rfl, fun p hp => ?_⟩⟩
  rw [Nat.zero_add, hb.cell]
  exact BC_get _ _ hp
/-- How what was grown is read. -/
theorem St3.read {r : Nat} (h : St3 B N kb bk vl vw ks n n gs vg R W) (hn : ks.length = n) (hr : r < n) :
    ∃ e g c A cx ga ca bg cg, ks[r]? = some e ∧ vl = .slice (some ⟨g, 0, none⟩) n c ∧ vg = .slice (some ⟨ga, 0, none⟩) n ca ∧ e.l = .slice A e.es.length cx ∧ W.cell? ⟨g, r, none⟩ = some e.l ∧ W.cell? ⟨ga, r, none⟩ = some (.slice (some ⟨bg, 0, none⟩) (e.es.length + 9) cg) ∧
      (∀ p, p < e.es.length + 9 → ∃ u, W.cell? ⟨bg, p, none⟩ = some u ∧ Three W u r p) ∧ ∀ p, p < e.es.length → ∃ b u, A = some ⟨b, 0, none⟩ ∧ W.cell? ⟨b, p, none⟩ = some u ∧ Three W u r p := by
  obtain ⟨g, c, e1, _, _, _, hc⟩ := own_form h.lists (by omega)
  obtain ⟨ga, ca, e2, _, _, _, hca⟩ := own_form h.grown (by omega)
  have hgl : gs.length = n := by
    have := h.grown.1
    omega
  obtain ⟨e, hx⟩ : ∃ e, ks[r]? = some e := ⟨_, List.getElem?_eq_getElem (by omega)⟩
  obtain ⟨y, hy⟩ : ∃ y, gs[r]? = some y := ⟨_, List.getElem?_eq_getElem (by omega)⟩
  obtain ⟨hD, _⟩ := h.done r _ y hr hx hy
  have hcell : ∀ {v : Value} {k : Nat}, R3 B W v r k → 0 < k → ∃ b c, v = .slice (some ⟨b, 0, none⟩) k c ∧ ∀ p, p < k → ∃ u, W.cell? ⟨b, p, none⟩ = some u ∧ Three W u r p := by
    intro v k hv h0
    obtain ⟨us, h1, h2, h3⟩ := hv
    obtain ⟨b, c, e, _, _, _, hc⟩ := own_form h1 h0
    refine ⟨b, c, e, fun p hp => ⟨_, hc p hp, h3 p _ ?_⟩⟩
    rw [List.getD, List.getElem?_eq_getElem (by omega)]
    rfl
  obtain ⟨bg, cg, e3, hg⟩ := hcell hD.1 (by omega)
  have hlx : ∃ A cx, e.l = .slice A e.es.length cx ∧ ∀ p, p < e.es.length → ∃ b u, A = some ⟨b, 0, none⟩ ∧ W.cell? ⟨b, p, none⟩ = some u ∧ Three W u r p := by
    rcases hD.2 with ⟨b, c, e4, e5⟩ | ⟨h2, _⟩
    · refine ⟨_, _, e4, fun p hp => ?_⟩
      rw [e3] at e5
      injection e5 with e5 _ _
      injection e5 with e5
      injection e5 with e5
      obtain ⟨u, hu⟩ := hg p (by omega)
      exact ⟨b, u, rfl, by rw [← e5]; exact hu.1, hu.2⟩
    · by_cases h0 : 0 < e.es.length
      · obtain ⟨b, c, e4, h4⟩ := hcell h2 h0
        exact ⟨_, _, e4, fun p hp => by
          obtain ⟨u, hu⟩ := h4 p hp
          exact ⟨b, u, rfl, hu⟩⟩
      · obtain ⟨us, h1, _⟩ := h2
        obtain ⟨A, cx, e4⟩ := own_slice1 h1
        exact ⟨A, cx, e4, fun p hp => absurd hp (by omega)⟩
  obtain ⟨A, cx, e4, hl⟩ := hlx
  refine ⟨e, g, c, A, cx, ga, ca, bg, cg, hx, by rw [e1, hn], e2, e4, ?_, ?_, hg, hl⟩
  · rw [hc r (by omega), List.getD, List.getElem?_map, hx]
    rfl
  · rw [hca r hr, List.getD, hy, ← e3]
    rfl
end
end Go.Proofs.Ytkkjnembjlgiaaa
