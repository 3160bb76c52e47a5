/-
  Owned: the mark, and the state of its loops.
-/
import Derived.Test.YtkkjnembjlgiaaaBk2
namespace Go.Proofs.Ytkkjnembjlgiaaa
set_option maxRecDepth 100000
open Go.RowKit

def mk8 (i n : Nat) : UInt8 := UInt8.ofNat (i * 7 + n * 13 + i / 256 + 1)
theorem mk8_by (i n : Nat) : by8 (mk8 i n) = ((i * 7 + n * 13 + i / 256 + 1 : Nat) : Int) % 256 := by
  unfold mk8 by8
  rw [UInt8.toNat_ofNat']
  omega
def marks (i n : Nat) : List UInt8 := (List.range n).map (mk8 i)
theorem marks_length (i n : Nat) : (marks i n).length = n := by simp [marks]
theorem marks_succ (i n : Nat) : marks i (n + 1) = marks i n ++ [mk8 i n] := by simp [marks, List.range_succ]
theorem marks_get (i n j : Nat) (h : j < n) : (marks i n).getD j 0 = mk8 i j := by simp [marks, List.getD, h]
theorem marks_put (i n : Nat) (bs : List UInt8) (h : n < bs.length) : (marks i n ++ bs.drop n).set n (mk8 i n) = marks i (n + 1) ++ bs.drop (n + 1) := by
  have e : (marks i n ++ bs.drop n).set n (mk8 i n) = marks i n ++ (bs.drop n).set (n - (marks i n).length) (mk8 i n) := List.set_append_right _ _ (by rw [marks_length]; exact Nat.le_refl _)
  rw [e, marks_succ, marks_length, Nat.sub_self, List.drop_eq_getElem_cons h, List.set_cons_zero, List.append_assoc]
  rfl
theorem marks_full (i : Nat) (bs : List UInt8) : marks i bs.length ++ bs.drop bs.length = marks i bs.length := by rw [List.drop_length, List.append_nil]
set_option maxHeartbeats 1600000 in
theorem mark_any (i n : Nat) (w : World) (hi : i ≤ 1000000000000) (hn : n ≤ 1000000000000) : Calls Try.prog 39 #[.int .i64 (i : Int), .int .i64 (n : Int)] w fun e w' => e = .returned (.int .u8 (by8 (mk8 i n))) ∧ w' = w := by
  rw [mk8_by]
  go_enter Try.func39, Try.ntmps39
  go_wp2
  go_ret
  exact ⟨by congr 2, rfl⟩
section
variable {P : Program} {w : World}
/-- A row that grew: where it stood, with the room that it had; or elsewhere, and what was stays. -/
def Grew2 (w w' : World) (base : Nat) (e : TypeId) (v : Value) (n m : Nat) (xs news : List Value) (g cap : Nat) : Prop :=
  Grew w w' base e v n m xs news g cap ∧ (v = .slice (some ⟨g, 0, none⟩) n cap ∨ (w.heap.size ≤ g ∧ Only Nil w w'))
theorem run_append_row2 (base : Nat) (t ty e : TypeId) (i : TypeInfo) (z : Value) (bytes : Nat) (ht : P.underlying t = some (.slice e)) (hi : P.info? e = some i) (hz : i.zero = some z)
    (hsize : i.size = 1) (hby : i.bytes = bytes) (hzs : z.cells.size = 1)
    (v : Value) (n : Nat) (xs : List Value) (hown : w.ownsRow base e 1 v n xs)
    (a : Addr) (m c : Nat) (news : List Value) (hl : news.length = m) (hnews : ∀ j u, news[j]? = some u → w.cell? (a.add j) = some u) (h1 : ∀ u ∈ news, u.oneCell' = true)
    (hm : 0 < m) (h63 : n + m ≤ maxLen) (hbytes : (n + m) * bytes ≤ 140737488355328) (hbase : base ≤ w.heap.size) :
    ∃ g cap w', (Builtin.append_ #[t, t] ty #[v, .slice (some a) m c]).run P w = .ok (.slice (some ⟨g, 0, none⟩) (n + m) cap) w' ∧ Grew2 w w' base e v n m xs news g cap := by
  rcases hown.2 with ⟨rfl, rfl⟩ | ⟨g0, cap0, cur, rfl, hb, hg, hnc, hcm, hcs, htake⟩
  · obtain ⟨g, cap, w', hr, h2, h3, h4, _⟩ := run_append_lies (P := P) w t ty base e i z 1 bytes ht hi hz hsize hby hzs (by omega) _ 0 xs hown a m c news (by simpa using hl) hnews h1 hm h63 hbytes hbase _ rfl
    exact ⟨g, cap, w', hr, ⟨h2, h3, h4, fun g0 j u h => by cases h⟩, .inr ⟨h4.elim (fun h => by cases h) fun h => Nat.le_of_eq h.symm, Only.of_grown h3 fun k hk => by cases hk⟩⟩
  · by_cases hfit : n + m ≤ cap0
    · obtain ⟨w', hr, h2, h3⟩ := run_append_fits (P := P) w base t ty e i 1 ht hi hsize g0 n cap0 xs hown a m c news (by simpa using hl) hnews h1 hfit
      refine ⟨g0, cap0, w', hr, ⟨h2, h3, .inl rfl, fun g1 j u hg1 hu => ?_⟩, .inl rfl⟩
      obtain rfl : g0 = g1 := Option.some.inj hg1
      have hj : j < xs.length := (List.getElem?_eq_some_iff.1 hu).1
      have := World.ownsRow.cells h2 (g := g0) rfl j u (by rw [List.getElem?_append_left hj]; exact hu)
      rwa [Addr.add_mid, Nat.zero_add] at this
    · have hc := fun j u hu => World.ownsRow.cells hown (g := g0) rfl j u hu
      obtain ⟨v', w', hr, h2, h3⟩ := run_append_arg_grows (P := P) w t ty e i z 1 bytes ht hi hz hsize hby hzs (by omega) ⟨g0, 0, none⟩ n cap0 xs hown.1 hc a m c news (by simpa using hl) hnews (by omega) h63 hbytes
      obtain ⟨g, cap, rfl, hgb, hlt⟩ := h2.form (by omega)
      have hlow : ∀ k, k < w.heap.size → w'.heap[k]? = w.heap[k]? := fun k hk => h3.block k hk (by simp)
      obtain ⟨v2, w2, hr2, h2a, h2b, _, h2d⟩ := run_append_own_at (P := P) w base t ty e i z 1 bytes ht hi hz hsize hby hzs (by omega) _ n xs hown a m c news (by simpa using hl) hnews h1 h63 hbytes hbase
      rw [hr] at hr2
      injection hr2 with e1 e2
      subst e1 e2
      have hg0 : g0 < w.heap.size := (Array.getElem?_eq_some_iff.1 hg).1
      refine ⟨g, cap, w', hr, ⟨h2a, h2b, ?_, fun g1 j u hg1 hu => ?_⟩, .inr ⟨hgb, Only.of_grown h3 fun k hk => by cases hk⟩⟩
      · rcases h2d with h | h
        · exact .inl h.symm
        · exact .inr (Option.some.inj h)
      · obtain rfl : g0 = g1 := Option.some.inj hg1
        have := World.ownsRow.cells hown (g := g0) rfl j u hu
        rw [Addr.add_mid, Nat.zero_add] at this
        exact (World.cell?_of_block (w := w) (hlow g0 hg0)).trans this
theorem wpList_append_row2 {ops : Array Oper} {rest : List Oper} {o : Oper} {a : Act} {Q : Exit → Act → World → Prop} (hgd : o.guard = none) (s x : Operand) (t : TypeId)
    (ho : o.op = .call { callee := .builtin .append, args := #[s, x], argTypes := #[t, t] })
    (base : Nat) (e : TypeId) (i : TypeInfo) (z : Value) (bytes : Nat) (ht : P.underlying t = some (.slice e)) (hi : P.info? e = some i) (hz : i.zero = some z)
    (hsize : i.size = 1) (hby : i.bytes = bytes) (hzs : z.cells.size = 1)
    (v : Value) (n : Nat) (xs : List Value) (hs : a.eval s = v) (hown : w.ownsRow base e 1 v n xs)
    (ad : Addr) (m c : Nat) (news : List Value) (hx : a.eval x = .slice (some ad) m c) (hl : news.length = m) (hnews : ∀ j u, news[j]? = some u → w.cell? (ad.add j) = some u) (h1 : ∀ u ∈ news, u.oneCell' = true)
    (hm : 0 < m) (h63 : n + m ≤ maxLen) (hbytes : (n + m) * bytes ≤ 140737488355328) (hbase : base ≤ w.heap.size)
    (h : ∀ g cap w', Grew2 w w' base e v n m xs news g cap → wpList P ops Q rest (a.put o.dst (.slice (some ⟨g, 0, none⟩) (n + m) cap)) w') : wpList P ops Q (o :: rest) a w := by
  refine wpList_plain hgd fun _ hK => ?_
  obtain ⟨g, cap, w', hrun, r⟩ := run_append_row2 (P := P) (w := w) base t o.type e i z bytes ht hi hz hsize hby hzs v n xs hown ad m c news hl hnews h1 hm h63 hbytes hbase
  unfold Oper.wp
  simp [execOp, ho, resolve, invoke, builtin, hs, hx, hrun, Result.andThen]
  exact hK _ _ (h g cap w' r)

end
/-- Whose block? List 'i' takes all that is new. -/
def Next (R : Nat → Nat → Prop) (n i : Nat) : Nat → Nat → Prop := fun k j => (k < n ∧ R k j) ∨ (n ≤ k ∧ j = i)
def Done (B : Nat) (w : World) (j : Nat) (x : Ls) (g : Value) (m : Nat) : Prop :=
  OwnB B w g (marks j (x.2.length + m)) ∧ ((∃ b c, x.1 = .slice (some ⟨b, 0, none⟩) x.2.length c ∧ g = .slice (some ⟨b, 0, none⟩) (x.2.length + m) c) ∨ (OwnB B w x.1 (marks j x.2.length) ∧ ∀ k, x.1.ownBlock = some k → g.ownBlock ≠ some k))
structure OwSt (B B1 : Nat) (kb : Nat) (vl vw : Value) (ls : List Ls) (lo i : Nat) (gs : List Value) (vg : Value) (R : Nat → Nat → Prop) (w : World) : Prop where
  blk : Blk w kb 34 [vl, vw]
  lists : w.ownsRow B 39 1 vl ls.length (ls.map (·.1))
  grown : w.ownsRow B1 39 1 vg i gs
  one : ∀ k j j', R k j → R k j' → j = j'
  later : ∀ j x, lo ≤ j → ls[j]? = some x → OwnB B w x.1 x.2 ∧ ∀ k, x.1.ownBlock = some k → R k j
  done : ∀ j x g, j < i → ls[j]? = some x → gs[j]? = some g → Done B w j x g 9 ∧ ∀ k, x.1.ownBlock = some k ∨ g.ownBlock = some k → R k j
  ne : ∀ k, vg.ownBlock = some k → vl.ownBlock ≠ some k
section
variable {B B1 : Nat} {w w' w1 w2 : World} {kb lo i n m : Nat} {vl vw vg g : Value} {ls : List Ls} {gs : List Value} {R : Nat → Nat → Prop} {S : Nat → Prop} {x : Ls}
theorem Next.one (h : ∀ k j j', R k j → R k j' → j = j') : ∀ k j j', Next R n i k j → Next R n i k j' → j = j' := by
  intro k j j' h1 h2
  rcases h1 with ⟨h1, h3⟩ | ⟨h1, h3⟩ <;> rcases h2 with ⟨h2, h4⟩ | ⟨h2, h4⟩
  · exact h k j j' h3 h4
  · omega
  · omega
  · omega
theorem OwnB.lt {v : Value} {bs : List UInt8} (h : OwnB B w v bs) {k : Nat} (hk : v.ownBlock = some k) : ∃ cs, Blk w k 5 cs := blk_of_own h hk
theorem Done.blks (h : Done B w i x g m) {k : Nat} (hk : x.1.ownBlock = some k ∨ g.ownBlock = some k) : ∃ cs, Blk w k 5 cs := by
  rcases hk with hk | hk
  · rcases h.2 with ⟨b, c, e1, e2⟩ | h2
    · refine h.1.lt (k := k) ?_
      rw [e2]
      rw [e1] at hk
      exact hk
    · exact h2.1.lt hk
  · exact h.1.lt hk
theorem Done.keep (h : Done B w i x g m) (ho : Only S w w') (hS : ∀ k, x.1.ownBlock = some k ∨ g.ownBlock = some k → ¬ S k) : Done B w' i x g m :=
  ⟨own_only h.1 ho fun k hk => hS k (.inr hk), h.2.imp id fun h => ⟨own_only h.1 ho fun k hk => hS k (.inl hk), h.2⟩⟩
theorem marks_take (i m q : Nat) : (marks i (m + q)).take m = marks i m := by
  unfold marks
  rw [← List.map_take, List.take_range, Nat.min_eq_left (Nat.le_add_right _ _)]
theorem OwnB.pre {b c q : Nat} (h : OwnB B w (.slice (some ⟨b, 0, none⟩) (m + q) c) (marks i (m + q))) : OwnB B w (.slice (some ⟨b, 0, none⟩) m c) (marks i m) := by
  unfold OwnB at h ⊢
  rw [marks_length] at h ⊢
  refine ⟨by rw [BC_length, marks_length, Nat.mul_one], ?_⟩
  rcases h.2 with ⟨h1, _⟩ | ⟨g, cap, cur, hv, hB, hg, hc, hm, hs, ht⟩
  · cases h1
  · refine .inr ⟨g, cap, cur, ?_, hB, hg, by omega, hm, hs, ?_⟩
    · injection hv with e1 e2 e3
      rw [e1, e3]
    · rw [← marks_take i m q]
      unfold BC at ht ⊢
      rw [List.map_take, ← ht, List.take_take, Nat.min_eq_left (by omega), Nat.mul_one]
theorem Done.zero (h : OwnB B w x.1 (marks i x.2.length)) : Done B w i x x.1 0 := by
  refine ⟨h, ?_⟩
  rcases h.2 with ⟨e, _⟩ | ⟨g, cap, cur, e, _⟩
  · refine .inr ⟨h, fun k hk => ?_⟩
    rw [e] at hk
    cases hk
  · rw [marks_length] at e
    exact .inl ⟨g, cap, e, e⟩
theorem Done.grew {q gg cap : Nat} (h : Done B w i x g q) (h1 : Only Nil w w1) (hg : Grew2 w1 w2 B 5 g (x.2.length + q) 1 (BC (marks i (x.2.length + q))) [.int .u8 (by8 (mk8 i (x.2.length + q)))] gg cap) :
    Done B w2 i x (.slice (some ⟨gg, 0, none⟩) (x.2.length + q + 1) cap) (q + 1) ∧ Only (fun k => g.ownBlock = some k) w w2 ∧ (g.ownBlock = some gg ∨ w.heap.size ≤ gg) := by
  have hO : Only (fun k => g.ownBlock = some k) w1 w2 := Only.of_grown hg.1.grown fun k hk => .inl hk
  have ho := (h1.mono (T := fun k => g.ownBlock = some k) fun _ _ e => e.elim).then hO
  have hown : OwnB B w2 (.slice (some ⟨gg, 0, none⟩) (x.2.length + q + 1) cap) (marks i (x.2.length + (q + 1))) := by
    unfold OwnB
    rw [marks_length, ← Nat.add_assoc, marks_succ, BC_append]
    exact hg.1.own
  have hat : g.ownBlock = some gg ∨ w.heap.size ≤ gg := hg.1.at'.imp id fun e => by rw [e]; exact h1.size
  refine ⟨⟨hown, ?_⟩, ho, hat⟩
  rcases hg.2 with e | ⟨hn, hnil⟩
  · rcases h.2 with ⟨b, c, e1, e2⟩ | ⟨h2, h3⟩
    · rw [e] at e2
      injection e2 with e3 _ e5
      injection e3 with e3
      injection e3 with e3
      subst e3 e5
      exact .inl ⟨_, _, e1, rfl⟩
    · exact .inr ⟨own_only h2 ho fun k hk e4 => h3 k hk e4, fun k hk e4 => h3 k hk (by rw [e]; exact e4)⟩
  · have h2 : OwnB B w x.1 (marks i x.2.length) := by
      rcases h.2 with ⟨b, c, e1, e2⟩ | ⟨h2, _⟩
      · have := h.1
        rw [e2] at this
        rw [e1]
        exact this.pre
      · exact h2
    refine .inr ⟨own_only (own_only h2 h1 fun _ _ e => e) hnil fun _ _ e => e, fun k hk e4 => ?_⟩
    obtain ⟨cs, hb⟩ := h2.lt hk
    have h5 : gg = k := Option.some.inj e4
    have h6 := hb.lt
    have h7 := h1.size
    omega
theorem OwSt.next (h : OwSt B B1 kb vl vw ls lo i gs vg R w) : OwSt B B1 kb vl vw ls lo i gs vg (Next R w.heap.size m) w :=
  ⟨h.blk, h.lists, h.grown, Next.one h.one, fun j x hj hx => ⟨(h.later j x hj hx).1, fun k hk => .inl ⟨by obtain ⟨cs, hb⟩ := (h.later j x hj hx).1.lt hk; exact hb.lt, (h.later j x hj hx).2 k hk⟩⟩,
    fun j x g hj hx hg => ⟨(h.done j x g hj hx hg).1, fun k hk => .inl ⟨by obtain ⟨cs, hb⟩ := (h.done j x g hj hx hg).1.blks hk; exact hb.lt, (h.done j x g hj hx hg).2 k hk⟩⟩, h.ne⟩
theorem OwSt.mono (h : OwSt B B1 kb vl vw ls lo i gs vg R w) (hl : lo ≤ n) : OwSt B B1 kb vl vw ls n i gs vg R w :=
  ⟨h.blk, h.lists, h.grown, h.one, fun j x hj hx => h.later j x (Nat.le_trans hl hj) hx, h.done, h.ne⟩
theorem own_byte_far {t : TypeId} {v : Value} {nn : Nat} {xs : List Value} {B' : Nat} (h : w.ownsRow B' t 1 v nn xs) (ht : t ≠ 5) (hS : ∀ k, S k → k < w.heap.size → ∃ cs, Blk w k 5 cs) : ∀ k, v.ownBlock = some k → ¬ S k := fun k hk hs => by
  obtain ⟨cs, hb⟩ := blk_of_own h hk
  obtain ⟨cs', hb'⟩ := hS k hs hb.lt
  exact ht (blk_type hb hb')
/-- The round's own list is written. -/
theorem OwSt.step (h : OwSt B B1 kb vl vw ls (i + 1) i gs vg R w) (ho : Only S w w') (hS : ∀ k, S k → k < w.heap.size → ∃ cs, Blk w k 5 cs) (hR : ∀ k, S k → R k i) : OwSt B B1 kb vl vw ls (i + 1) i gs vg R w' :=
  ⟨ho.blk h.blk (fun hs => by obtain ⟨cs, hb⟩ := hS kb hs h.blk.lt; exact absurd (blk_type h.blk hb) (by decide)), own_only h.lists ho (own_byte_far h.lists (by decide) hS), own_only h.grown ho (own_byte_far h.grown (by decide) hS), h.one,
    fun j x hj hx => ⟨own_only (h.later j x hj hx).1 ho fun k hk hs => by
      have := h.one k _ _ ((h.later j x hj hx).2 k hk) (hR k hs)
      omega, (h.later j x hj hx).2⟩,
    fun j x g hj hx hg => ⟨(h.done j x g hj hx hg).1.keep ho fun k hk hs => by
      have := h.one k _ _ ((h.done j x g hj hx hg).2 k hk) (hR k hs)
      omega, (h.done j x g hj hx hg).2⟩, h.ne⟩
/-- The list that was grown is put behind the others. -/
theorem OwSt.push (h : OwSt B B1 kb vl vw ls (i + 1) i gs vg R w) (hx : ls[i]? = some x) (hd : Done B w i x g 9) (hr : ∀ k, x.1.ownBlock = some k ∨ g.ownBlock = some k → R k i) (h1 : Only Nil w w1) {gg cap : Nat} (hg : Grew w1 w2 B1 39 vg i 1 gs [g] gg cap) :
    OwSt B B1 kb vl vw ls (i + 1) (i + 1) (gs ++ [g]) (.slice (some ⟨gg, 0, none⟩) (i + 1) cap) R w2 ∧ Only (fun k => vg.ownBlock = some k) w w2 := by
  have hO : Only (fun k => vg.ownBlock = some k) w1 w2 := Only.of_grown hg.grown fun k hk => .inl hk
  have ho := (h1.mono (T := fun k => vg.ownBlock = some k) fun _ _ e => e.elim).then hO
  have hbk : ∀ k, (∃ cs, Blk w k 5 cs) → ¬ vg.ownBlock = some k := fun k hb hk => by
    obtain ⟨cs, hb⟩ := hb
    obtain ⟨cs', hb'⟩ := blk_of_own h.grown hk
    exact absurd (blk_type hb hb') (by decide)
  have hlen : gs.length = i := by
    have := h.grown.1
    omega
  have hl1 := own_only h.lists h1 fun _ _ e => e
  refine ⟨⟨ho.blk h.blk (ownN_far h.grown h.blk (by decide)), own_only h.lists ho fun k hk hs => h.ne k hs hk, hg.own, h.one, fun j y hj hy => ⟨own_only (h.later j y hj hy).1 ho fun k hk => hbk k ((h.later j y hj hy).1.lt hk), (h.later j y hj hy).2⟩, fun j y gv hj hy hgv => ?_, fun k hk => ?_⟩, ho⟩
  · by_cases hji : j < i
    · rw [List.getElem?_append_left (by omega)] at hgv
      exact ⟨(h.done j y gv hji hy hgv).1.keep ho fun k hk => hbk k ((h.done j y gv hji hy hgv).1.blks hk), (h.done j y gv hji hy hgv).2⟩
    · obtain rfl : j = i := by omega
      rw [List.getElem?_append_right (by omega), hlen, Nat.sub_self] at hgv
      obtain rfl : g = gv := by simpa using hgv
      obtain rfl : x = y := by rw [hx] at hy; exact Option.some.inj hy
      exact ⟨hd.keep ho fun k hk => hbk k (hd.blks hk), hr⟩
  · obtain rfl : gg = k := Option.some.inj hk
    rcases hg.at' with h2 | h2
    · exact h.ne gg h2
    · intro h3
      obtain ⟨cs, hb⟩ := blk_of_own hl1 h3
      have := hb.lt
      omega
end
end Go.Proofs.Ytkkjnembjlgiaaa
