/-
  Rows of the call's own that grow by an append, whatever they hold; slices that read as values. No function of the program is walked here.
-/
import Derived.Test.YthkongkbefpilaaDoorDig10
import Derived.Deep.Onto
namespace Go.Proofs.YthkongkbefpilaaDoor
open Go.RowKit Sha
section
variable {P : Program} {w : World}
/-- An append to a row of the call's own: what it reads as; where it lies; what else keeps. -/
structure Grew (w w' : World) (base : Nat) (e : TypeId) (v : Value) (n m : Nat) (xs news : List Value) (g cap : Nat) : Prop where
  own : w'.ownsRow base e 1 (.slice (some ⟨g, 0, none⟩) (n + m) cap) (n + m) (xs ++ news)
  grown : w.grownBy w' v.ownBlock
  at' : v.ownBlock = some g ∨ g = w.heap.size
  old : ∀ (g0 j : Nat) (u : Value), v.ownBlock = some g0 → xs[j]? = some u → w'.cell? ⟨g0, j, none⟩ = some u
theorem run_append_row (base : Nat) (t ty e : TypeId) (i : TypeInfo) (z : Value) (bytes : Nat) (ht : P.underlying t = some (.slice e)) (hi : P.info? e = some i) (hz : i.zero = some z)
    (hsize : i.size = 1) (hby : i.bytes = bytes) (hzs : z.cells.size = 1)
    (v : Value) (n : Nat) (xs : List Value) (hown : w.ownsRow base e 1 v n xs)
    (a : Addr) (m c : Nat) (news : List Value) (hl : news.length = m) (hnews : ∀ j u, news[j]? = some u → w.cell? (a.add j) = some u) (h1 : ∀ u ∈ news, u.oneCell' = true)
    (hm : 0 < m) (h63 : n + m ≤ maxLen) (hbytes : (n + m) * bytes ≤ 140737488355328) (hbase : base ≤ w.heap.size) :
    ∃ g cap w', (Builtin.append_ #[t, t] ty #[v, .slice (some a) m c]).run P w = .ok (.slice (some ⟨g, 0, none⟩) (n + m) cap) w' ∧ Grew w w' base e v n m xs news g cap := by
  rcases hown.2 with ⟨rfl, rfl⟩ | ⟨g0, cap0, cur, rfl, hb, hg, hnc, hcm, hcs, htake⟩
  · obtain ⟨g, cap, w', hr, h2, h3, h4, _⟩ := run_append_lies (P := P) w t ty base e i z 1 bytes ht hi hz hsize hby hzs (by omega) _ 0 xs hown a m c news (by simpa using hl) hnews h1 hm h63 hbytes hbase _ rfl
    exact ⟨g, cap, w', hr, h2, h3, h4, fun g0 j u h => by cases h⟩
  · by_cases hfit : n + m ≤ cap0
    · obtain ⟨w', hr, h2, h3⟩ := run_append_fits (P := P) w base t ty e i 1 ht hi hsize g0 n cap0 xs hown a m c news (by simpa using hl) hnews h1 hfit
      refine ⟨g0, cap0, w', hr, h2, h3, .inl rfl, fun g1 j u hg1 hu => ?_⟩
      obtain rfl : g0 = g1 := Option.some.inj hg1
      have hj : j < xs.length := (List.getElem?_eq_some_iff.1 hu).1
      have := World.ownsRow.cells h2 (g := g0) rfl j u (by rw [List.getElem?_append_left hj]; exact hu)
      rwa [Addr.add_mid, Nat.zero_add] at this
    · have hc := fun j u hu => World.ownsRow.cells hown (g := g0) rfl j u hu
      obtain ⟨v', w', hr, h2, h3⟩ := run_append_arg_grows (P := P) w t ty e i z 1 bytes ht hi hz hsize hby hzs (by omega) ⟨g0, 0, none⟩ n cap0 xs hown.1 hc a m c news (by simpa using hl) hnews (by omega) h63 hbytes
      obtain ⟨g, cap, rfl, hgb, hlt⟩ := h2.form (by omega)
      have hlow : ∀ k, k < w.heap.size → w'.heap[k]? = w.heap[k]? := fun k hk => h3.block k hk (by simp)
      obtain ⟨v2, w2, hr2, h2a, h2b, _, h2d⟩ := run_append_own_at (P := P) w base t ty e i z 1 bytes ht hi hz hsize hby hzs (by omega) _ n xs hown a m c news (by simpa using hl) hnews h1 h63 hbytes hbase
      rw [hr] at hr2
      injection hr2 with e1 e2
      subst e1 e2
      have hg0 : g0 < w.heap.size := (Array.getElem?_eq_some_iff.1 hg).1
      refine ⟨g, cap, w', hr, h2a, h2b, ?_, fun g1 j u hg1 hu => ?_⟩
      · rcases h2d with h | h
        · exact .inl h.symm
        · exact .inr (Option.some.inj h)
      · obtain rfl : g0 = g1 := Option.some.inj hg1
        have := World.ownsRow.cells hown (g := g0) rfl j u hu
        rw [Addr.add_mid, Nat.zero_add] at this
        exact (World.cell?_of_block (w := w) (hlow g0 hg0)).trans this
theorem step_append_row {ops : Array Oper} {o : Oper} {a : Act} {K : Act → World → Prop} {Q : Exit → Act → World → Prop} {E : Prop} (hgd : o.guard = none) (s x : Operand) (t : TypeId)
    (ho : o.op = .call { callee := .builtin .append, args := #[s, x], argTypes := #[t, t] })
    (base : Nat) (e : TypeId) (i : TypeInfo) (z : Value) (bytes : Nat) (ht : P.underlying t = some (.slice e)) (hi : P.info? e = some i) (hz : i.zero = some z)
    (hsize : i.size = 1) (hby : i.bytes = bytes) (hzs : z.cells.size = 1)
    (v : Value) (n : Nat) (xs : List Value) (hs : a.eval s = v) (hown : w.ownsRow base e 1 v n xs)
    (ad : Addr) (m c : Nat) (news : List Value) (hx : a.eval x = .slice (some ad) m c) (hl : news.length = m) (hnews : ∀ j u, news[j]? = some u → w.cell? (ad.add j) = some u) (h1 : ∀ u ∈ news, u.oneCell' = true)
    (hm : 0 < m) (h63 : n + m ≤ maxLen) (hbytes : (n + m) * bytes ≤ 140737488355328) (hbase : base ≤ w.heap.size)
    (h : ∀ g cap w', Grew w w' base e v n m xs news g cap → K (a.put o.dst (.slice (some ⟨g, 0, none⟩) (n + m) cap)) w') :
    if Region.wanted o (yielded ops a.tmps) = true then Oper.wp P o a w K Q else E := by
  rw [if_pos (by simp [Region.wanted, hgd])]
  obtain ⟨g, cap, w', hrun, r⟩ := run_append_row (P := P) (w := w) base t o.type e i z bytes ht hi hz hsize hby hzs v n xs hown ad m c news hl hnews h1 hm h63 hbytes hbase
  unfold Oper.wp
  simp [execOp, ho, resolve, invoke, builtin, hs, hx, hrun, Result.andThen]
  exact h g cap w' r
theorem wpList_append_row {ops : Array Oper} {rest : List Oper} {o : Oper} {a : Act} {Q : Exit → Act → World → Prop} (hgd : o.guard = none) (s x : Operand) (t : TypeId)
    (ho : o.op = .call { callee := .builtin .append, args := #[s, x], argTypes := #[t, t] })
    (base : Nat) (e : TypeId) (i : TypeInfo) (z : Value) (bytes : Nat) (ht : P.underlying t = some (.slice e)) (hi : P.info? e = some i) (hz : i.zero = some z)
    (hsize : i.size = 1) (hby : i.bytes = bytes) (hzs : z.cells.size = 1)
    (v : Value) (n : Nat) (xs : List Value) (hs : a.eval s = v) (hown : w.ownsRow base e 1 v n xs)
    (ad : Addr) (m c : Nat) (news : List Value) (hx : a.eval x = .slice (some ad) m c) (hl : news.length = m) (hnews : ∀ j u, news[j]? = some u → w.cell? (ad.add j) = some u) (h1 : ∀ u ∈ news, u.oneCell' = true)
    (hm : 0 < m) (h63 : n + m ≤ maxLen) (hbytes : (n + m) * bytes ≤ 140737488355328) (hbase : base ≤ w.heap.size)
    (h : ∀ g cap w', Grew w w' base e v n m xs news g cap → wpList P ops Q rest (a.put o.dst (.slice (some ⟨g, 0, none⟩) (n + m) cap)) w') : wpList P ops Q (o :: rest) a w := by
  refine wpList_plain hgd fun _ hK => ?_
  obtain ⟨g, cap, w', hrun, r⟩ := run_append_row (P := P) (w := w) base t o.type e i z bytes ht hi hz hsize hby hzs v n xs hown ad m c news hl hnews h1 hm h63 hbytes hbase
  unfold Oper.wp
  simp [execOp, ho, resolve, invoke, builtin, hs, hx, hrun, Result.andThen]
  exact hK _ _ (h g cap w' r)
end
section
variable {w wr w1 w2 : World} {base : Nat} {e : TypeId} {v : Value} {n m : Nat} {xs news : List Value} {g cap : Nat}
theorem own_block (h : w.ownsRow base e 1 v n xs) : ∀ k, v.ownBlock = some k → base ≤ k ∧ k < w.heap.size := by
  intro k hk
  rcases h.2 with ⟨rfl, _⟩ | ⟨g, cap, cur, rfl, hg, hh, _⟩
  · cases hk
  · obtain rfl : g = k := Option.some.inj hk
    exact ⟨hg, (Array.getElem?_eq_some_iff.1 hh).1⟩
theorem own_blkOf (h : w.ownsRow base e 1 v n xs) : blkOf v = v.ownBlock := by
  rcases h.2 with ⟨rfl, _⟩ | ⟨g, cap, cur, rfl, _⟩ <;> rfl
theorem own_form (h : w.ownsRow base e 1 v n xs) (hn : 0 < n) : ∃ g cap, v = .slice (some ⟨g, 0, none⟩) n cap ∧ n ≤ cap ∧ base ≤ g ∧ g < w.heap.size ∧ ∀ j, j < n → w.cell? ⟨g, j, none⟩ = some (xs.getD j undef) := by
  rcases h.2 with ⟨_, h0⟩ | ⟨g, cap, cur, rfl, hb, hh, hc, _⟩
  · omega
  · refine ⟨g, cap, rfl, hc, hb, (Array.getElem?_eq_some_iff.1 hh).1, fun j hj => ?_⟩
    have hl : j < xs.length := by have := h.1; omega
    have := World.ownsRow.cells h (g := g) rfl j xs[j] (List.getElem?_eq_getElem hl)
    rw [Addr.add_mid, Nat.zero_add] at this
    rw [this]
    simp [List.getD, hl]
theorem own_only {S : Nat → Prop} (h : w.ownsRow base e 1 v n xs) (ho : Only S w w1) (hS : ∀ g, v.ownBlock = some g → ¬ S g) : w1.ownsRow base e 1 v n xs := by
  obtain ⟨h1, h2⟩ := h
  refine ⟨h1, ?_⟩
  rcases h2 with h2 | ⟨g, cap, cur, rfl, hg, hh, r⟩
  · exact .inl h2
  · exact .inr ⟨g, cap, cur, rfl, hg, (ho.block g (Array.getElem?_eq_some_iff.1 hh).1 (hS g rfl)).trans hh, r⟩
theorem own_reads (h : w.ownsRow base e 1 v n xs) : RV w v xs := by
  have hl : xs.length = n := by simpa using h.1
  by_cases h0 : 0 < n
  · obtain ⟨g, cap, rfl, hc, _, _, hcell⟩ := own_form h h0
    exact ⟨some ⟨g, 0, none⟩, cap, by rw [hl], by omega, fun _ => ⟨g, 0, rfl, fun j hj => by rw [Nat.zero_add]; exact hcell j (by omega)⟩⟩
  · rcases h.2 with ⟨rfl, hn⟩ | ⟨g, cap, cur, rfl, hb, hh, hc, _⟩
    · exact ⟨none, 0, by rw [hl, hn], by omega, fun h => absurd h (by omega)⟩
    · exact ⟨some ⟨g, 0, none⟩, cap, by rw [hl], by omega, fun h => absurd h (by omega)⟩
/-- From a world that is 'wr' and more. -/
theorem grew_only (hg : Grew w1 w2 base e v n m xs news g cap) (h : wr.ownsRow base e 1 v n xs) (ho : Only Nil w wr) (h1 : Only Nil wr w1) (hb : w.heap.size ≤ base) : Only Nil w w2 ∧ (∀ k t cs, k < base → Blk wr k t cs → Blk w2 k t cs) := by
  have hS : ∀ k, v.ownBlock = some k → base ≤ k := fun k hk => (own_block h k hk).1
  refine ⟨(ho.then h1).trans (Only.of_grown (S := fun k => base ≤ k) hg.grown fun k hk => .inl (hS k hk)) fun i hi => .inr (Nat.le_trans hb hi), fun k t cs hk hB => ?_⟩
  exact (Only.of_grown (S := fun k => base ≤ k) hg.grown fun k hk => .inl (hS k hk)).blk (h1.blk hB id) (by omega)
theorem grew_cell (hg : Grew w1 w2 base e v n m xs news g cap) (h : wr.ownsRow base e 1 v n xs) {p : Addr} {u : Value} (hp : p.block < base) (hc : w1.cell? p = some u) : w2.cell? p = some u :=
  (Only.of_grown (S := fun k => base ≤ k) hg.grown fun k hk => .inl (own_block h k hk).1).cell hc (by omega)
end
/-- A row of words. -/
def OW (w : World) (base : Nat) (v : Value) (ws : List (BitVec 32)) : Prop := w.ownsRow base 71 1 v ws.length (WC ws)
theorem OW.nil (w : World) (base : Nat) : OW w base (.slice none 0 0) [] := ⟨rfl, .inl ⟨rfl, rfl⟩⟩
theorem news_words {w : World} {g : Nat} {t : TypeId} {cs : List Value} (h : Blk w g t cs) : ∀ j u, cs[j]? = some u → w.cell? ((⟨g, 0, none⟩ : Addr).add j) = some u := news_block h
theorem info_word : (Tryd.prog.info? 71).map (fun i => (i.zero, i.size, i.bytes)) = some (some (.int .u32 0), 1, 4) := by kernel_rfl
end Go.Proofs.YthkongkbefpilaaDoor
