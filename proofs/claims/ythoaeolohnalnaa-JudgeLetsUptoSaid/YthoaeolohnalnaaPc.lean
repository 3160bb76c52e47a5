/-
  The simple system of JudgeLets: an event is added.
-/
import Derived.Test.YthoaeolohnalnaaPb
import Derived.Test.YthoaeolohnalnaaRl
namespace Go.Proofs.Ythoaeolohnalnaa
open Go.RowKit

theorem snoc_lowP (l : List Ev) (e : Ev) {j : Nat} (h : j < l.length) : (l ++ [e]).getD j ev0 = l.getD j ev0 := by
  simp [List.getD, List.getElem?_append_left h]
theorem snoc_endP (l : List Ev) (e : Ev) : (l ++ [e]).getD l.length ev0 = e := by
  simp [List.getD]
theorem ev_one7 (e : Ev) : ∀ u ∈ e.cells, u.oneCell' = true := ev_cells_one e
/-- Blocks that are neither events nor the system itself stay. -/
def Keeps (w w' : World) : Prop := ∀ k t cs, Blk w k t cs → t ≠ 48 → t ≠ 41 → Blk w' k t cs
def Fr (base : Nat) (w w' : World) : Prop := Only (Ge base) w w' ∧ Keeps w w'
theorem Fr.refl (base : Nat) (w : World) : Fr base w w := ⟨Only.refl _ _, fun _ _ _ h _ _ => h⟩
theorem Fr.then {base : Nat} {a b c : World} (h : Fr base a b) (k : Fr base b c) : Fr base a c := ⟨h.1.then k.1, fun i t cs hb h1 h2 => k.2 i t cs (h.2 i t cs hb h1 h2) h1 h2⟩
theorem Fr.nil {base : Nat} {a b c : World} (h : Fr base a b) (k : Only Nil b c) : Fr base a c := h.then ⟨k.mono fun _ _ h => h.elim, fun _ _ _ hb _ _ => k.blk hb id⟩
theorem Fr.drewN {base : Nat} {a b : World} (h : Fr base a b) (n : Nat) : Fr base a (b.drewN n) := h.nil ((Only.refl Nil b).drewN n)
theorem PlAt.frSet {w W : World} {g base : Nat} {c : Cfg} {v : Value} {l : List Ev} {s : Py} (h : PlAt W g base c v l s) (hf : Fr base w W) (i : Nat) (u : Value) : Fr base w (W.setCell ⟨g, i, none⟩ u) :=
  hf.then ⟨(Only.refl _ _).setCell (p := ⟨g, i, none⟩) (.inl h.low.1) _, fun k t cs hb _ h2 => hb.far (p := ⟨g, i, none⟩) (fun e => h2 (by rw [show k = g from e] at hb; exact blk_type hb h.blk)) u⟩
theorem PlAt.grew {W W1 w2 : World} {g base : Nat} {c : Cfg} {v : Value} {l : List Ev} {s : Py} {e : Ev} {g6 cap : Nat} (h : PlAt W g base c v l s) (he : EvB W e) (h1 : Only Nil W W1)
    (hg : GrewN W1 w2 base 48 7 v l.length 1 (flatE l) e.cells g6 cap) :
    PlAt (w2.setCell ⟨g, 45, none⟩ (.slice (some ⟨g6, 0, none⟩) (l.length + 1) cap)) g base c (.slice (some ⟨g6, 0, none⟩) (l.length + 1) cap) (l ++ [e]) s ∧ Fr base W (w2.setCell ⟨g, 45, none⟩ (.slice (some ⟨g6, 0, none⟩) (l.length + 1) cap)) := by
  have hOn : Only (fun k => v.ownBlock = some k) W1 w2 := Only.of_grown hg.grown fun i hi => .inl hi
  have h' := h.nil h1
  have hne : v.ownBlock ≠ some g := ownN_far h'.own h'.blk play_ne
  have hb2 := hOn.blk h'.blk hne
  have hS : ∀ k, v.ownBlock = some k → ∀ cs, ¬ Blk W1 k 5 cs := fun k hk cs hb => ownN_far h'.own hb (by decide) hk
  have ho : Only (One g) w2 (w2.setCell ⟨g, 45, none⟩ (.slice (some ⟨g6, 0, none⟩) (l.length + 1) cap)) := (Only.refl _ _).setCell (p := ⟨g, 45, none⟩) (.inl (One.self g)) _
  have hE : ∀ x, EvB W x → EvB (w2.setCell ⟨g, 45, none⟩ (.slice (some ⟨g6, 0, none⟩) (l.length + 1) cap)) x := fun x hx =>
    ((hx.only h1 fun _ hk => hk.elim).only hOn hS).only ho fun k hk cs hb => by
      rw [show k = g from hk] at hb
      exact absurd (blk_type hb hb2) (by decide)
  have hown := hg.own
  rw [← flatE_snoc] at hown
  have hsz : base ≤ w2.heap.size := Nat.le_trans h'.low.2 hOn.size
  refine ⟨⟨h.ok, ?_, ?_, fun j hj => ?_, h.low.1, Nat.le_trans hsz ho.size⟩, ((h1.mono (T := Ge base) fun _ _ hk => hk.elim).trans hOn fun k hk => .inl (ownN_block h'.own k hk).1).setCell (p := ⟨g, 45, none⟩) (.inl h.low.1) _, fun k t cs hb ht1 ht2 => ?_⟩
  rotate_right
  · exact (hOn.blk (h1.blk hb id) fun hk => ownN_far h'.own (h1.blk hb id) (fun e => ht1 e.symm) hk).far (p := ⟨g, 45, none⟩) (fun e => ht2 (by rw [show k = g from e] at hb; exact blk_type hb h.blk)) _
  · have := hb2.set 45 (.slice (some ⟨g6, 0, none⟩) (l.length + 1) cap)
    rw [List.set_append_right _ _ (by rw [h.ok.length]; omega), h.ok.length] at this
    exact this
  · rw [List.length_append, List.length_singleton]
    exact ownN_only hown ho fun k hk h1 => ownN_far hown hb2 play_ne (by rw [hk, show k = g from h1])
  · by_cases hjl : j < l.length
    · rw [snoc_lowP l e hjl]
      exact hE _ (h.each j hjl)
    · have : j = l.length := by rw [List.length_append, List.length_singleton] at hj; omega
      subst this
      rw [snoc_endP l e]
      exact hE _ he
theorem PlAt.grewCell {W W1 w2 : World} {g base : Nat} {c : Cfg} {v : Value} {l : List Ev} {s : Py} {e : Ev} {g6 cap : Nat} (h : PlAt W g base c v l s) (h1 : Only Nil W W1)
    (hg : GrewN W1 w2 base 48 7 v l.length 1 (flatE l) e.cells g6 cap) : w2.cell? ⟨g, 45, none⟩ = some v ∧ w2.frozen? ⟨g, 45, none⟩ = false := by
  have hOn : Only (fun k => v.ownBlock = some k) W1 w2 := Only.of_grown hg.grown fun i hi => .inl hi
  have h' := h.nil h1
  have hb2 := hOn.blk h'.blk (ownN_far h'.own h'.blk play_ne)
  refine ⟨?_, hb2.free 45⟩
  rw [hb2.cell, ← h'.blk.cell]
  exact h'.cL
set_option maxHeartbeats 3200000 in
set_option maxRecDepth 100000 in
theorem add_any (g base : Nat) (c : Cfg) (v : Value) (l : List Ev) (s : Py) (e : Ev) (w : World) (h : PlAt w g base c v l s) (he : EvB w e) (hn : l.length ≤ 1000000000) :
    Calls Try.prog 32 #[.pointer (some ⟨g, 0, none⟩), e.v] w fun r w' => r = .returned (.tuple #[]) ∧ (∃ v', PlAt w' g base c v' (l ++ [{ e with time := s.now }]) s) ∧ Fr base w w' := by
  obtain ⟨ie, hie, hez, hes, heb⟩ := info_parts info_evt
  have HE := Lib.hid he
  have HP := Lib.hid h
  have HEq := Lib.hid (show ∃ e', e' = { e with time := s.now } from ⟨_, rfl⟩)
  obtain ⟨e', he'⟩ := HEq.out
  have HE2 := Lib.hid (show EvB w e' by subst he'; exact he)
  have HE' := Lib.hid he'
  clear h he he' HEq
  obtain ⟨kind, time, ip, till, why, len, a, cap, data⟩ := e
  unfold Ev.v
  go_enter Try.func32, Try.ntmps32
  go_upto_region 1 with fail
  obtain ⟨b, hb⟩ : ∃ b, w.heap.size = b := ⟨_, rfl⟩
  refine wp_gen (fun W => Only Nil w W ∧ Blk W b 48 [.int .i64 kind, .int .i64 time, .int .u32 ip, .int .i64 till, .int .i64 why, .int .i64 len, .slice a data.length cap]) ⟨(Only.refl _ _).alloc _, hb ▸ Blk.new w _ _⟩ ?_
  have HB := Lib.hid hb
  rw [hb]
  clear hb
  intro w1 h1
  have cn := (HP.out.nil h1.1).cNow
  have c1 : w1.cell? ⟨b, 1, none⟩ = some (.int .i64 time) := h1.2.cell 1
  have z1 := h1.2.free 1
  have hb1 := h1.2.set 1 (.int .i64 s.now)
  have HF := Lib.hid (show Only Nil w (w1.setCell ⟨b, 1, none⟩ (.int .i64 s.now)) ∧ Blk (w1.setCell ⟨b, 1, none⟩ (.int .i64 s.now)) b 48 e'.cells from ⟨h1.1.setCell (p := ⟨b, 1, none⟩) (.inr (by rw [HB.out]; exact Nat.le_refl _)) _, by rw [HE'.out]; exact hb1⟩)
  clear h1 hb1
  go_upto_region 2 with fail
  refine wp_gen (fun W => Only Nil w W ∧ Blk W b 48 e'.cells) HF.out ?_
  clear cn c1 z1 HF
  intro wr h1
  have HO := Lib.hid h1.1
  have HPR := Lib.hid (HP.out.nil h1.1)
  have HEB := Lib.hid (HE2.out.only h1.1 fun _ hk => hk.elim)
  have hsz := (HP.out.nil h1.1).low.2
  have cl : wr.cell? ⟨g, 45, none⟩ = some v := HPR.out.cL
  have cla : (wr.alloc (.cells #[.int .i64 e'.kind, .int .i64 e'.time, .int .u32 e'.ip, .int .i64 e'.till, .int .i64 e'.why, .int .i64 e'.len, .slice e'.a e'.data.length e'.cap] 48)).cell? ⟨g, 45, none⟩ = some v := (HPR.out.nil ((Only.refl Nil wr).alloc _)).cL
  have q0 : wr.cell? ⟨b, 0, none⟩ = some (.int .i64 e'.kind) := h1.2.cell 0
  have q1 : wr.cell? ⟨b, 1, none⟩ = some (.int .i64 e'.time) := h1.2.cell 1
  have q2 : wr.cell? ⟨b, 2, none⟩ = some (.int .u32 e'.ip) := h1.2.cell 2
  have q3 : wr.cell? ⟨b, 3, none⟩ = some (.int .i64 e'.till) := h1.2.cell 3
  have q4 : wr.cell? ⟨b, 4, none⟩ = some (.int .i64 e'.why) := h1.2.cell 4
  have q5 : wr.cell? ⟨b, 5, none⟩ = some (.int .i64 e'.len) := h1.2.cell 5
  have q6 : wr.cell? ⟨b, 6, none⟩ = some (.slice e'.a e'.data.length e'.cap) := h1.2.cell 6
  clear h1
  go_region_law ((refine step_append_rowN (by rfl) _ _ _ (by rfl) base 48 ie _ 7 72 Try.underlying27 hie hez hes heb rfl (by omega) v l.length (flatE l) (by rfl) (ownN_only HPR.out.own (by first | exact (Only.refl Nil _).drew.alloc _ | exact ((Only.refl Nil _).alloc _).drew | exact (Only.refl Nil _).alloc _) fun _ _ => id) ⟨wr.heap.size, 0, none⟩ 1 1 e'.cells (by rfl) (by rfl) (news_block (Blk.new wr 48 e'.cells)) (ev_one7 _) (by omega) (by unfold maxLen; omega) (by omega) (by simp; omega) ?_; intro g6 cap6 w6 hg6; have HG := Lib.hid (HPR.out.grew HEB.out (by first | exact (Only.refl Nil _).drew.alloc _ | exact ((Only.refl Nil _).alloc _).drew | exact (Only.refl Nil _).alloc _) hg6); have hgc := HPR.out.grewCell (by first | exact (Only.refl Nil _).drew.alloc _ | exact ((Only.refl Nil _).alloc _).drew | exact (Only.refl Nil _).alloc _) hg6; have d1 := hgc.1; have d2 := hgc.2; clear hg6 hgc))
  all_goals
    clear d1 d2 cl cla q0 q1 q2 q3 q4 q5 q6
    go_end0
    have hfin := HG.out.1
    rw [HE'.out] at hfin
    exact ⟨rfl, ⟨_, hfin⟩, ((Fr.refl base w).nil HO.out).then HG.out.2⟩
end Go.Proofs.Ythoaeolohnalnaa
