/-
  WirePlays: what came out (kept), whose blocks are whose (colours): 5 what is kept, 6 the book, 7 what the document's side only reads; take.
-/
import Derived.Test.YtkkjnembjlgiaaaVg
import Derived.Test.YtkkjnembjlgiaaaBk4
namespace Go.Proofs.Ytkkjnembjlgiaaa
set_option maxRecDepth 100000
open Go.RowKit

theorem info_rows3 : (Try.prog.info? 31).map (fun i => (i.zero, i.size, i.bytes)) = some (some (.slice none 0 0), 1, 24) := by kernel_rfl
/-- Two lists that came out: the program's, the document's. -/
structure Ke where
  l : Value
  es : List Wy
  m : Value
  fs : List Wy
def FarR (e e' : Ke) : Prop := ∀ k, e.l.ownBlock = some k → e'.l.ownBlock ≠ some k
structure KeptAt (B : Nat) (W : World) (c : Nat → Nat) (kb bk : Nat) (vl vw : Value) (ks : List Ke) : Prop where
  blk : Blk W kb 37 [.pointer (some ⟨bk, 0, none⟩), vl, vw]
  lists : W.ownsRow B 31 1 vl ks.length (ks.map Ke.l)
  were : W.ownsRow B 31 1 vw ks.length (ks.map Ke.m)
  ne : ∀ k, vl.ownBlock = some k → vw.ownBlock ≠ some k
  rows : ∀ e ∈ ks, W.ownsRow B 39 1 e.l e.es.length (e.es.map Wy.d)
  rows2 : ∀ e ∈ ks, W.ownsRow B 39 1 e.m e.fs.length (e.fs.map Wy.d)
  frames : ∀ e ∈ ks, ∀ y ∈ e.es, OwnB B W y.d y.bs
  frames2 : ∀ e ∈ ks, ∀ y ∈ e.fs, OwnB B W y.d y.bs
  same : ∀ e ∈ ks, e.es.map Wy.bs = e.fs.map Wy.bs
  farR : ks.Pairwise FarR
  far : (ks.flatMap Ke.es).Pairwise Far
  foot : c kb = 5 ∧ (∀ k, vl.ownBlock = some k → c k = 5) ∧ (∀ k, vw.ownBlock = some k → c k = 5)
  footE : ∀ e ∈ ks, (∀ k, e.l.ownBlock = some k → c k = 5) ∧ (∀ y ∈ e.es, ∀ k, y.d.ownBlock = some k → c k = 5) ∧ (∀ k, e.m.ownBlock = some k → c k = 7) ∧ ∀ y ∈ e.fs, ∀ k, y.d.ownBlock = some k → c k = 7
structure Kept (B : Nat) (W : World) (c : Nat → Nat) (kb bk : Nat) (ks : List Ke) : Prop where
  at' : ∃ vl vw, KeptAt B W c kb bk vl vw ks
  book : ∃ F, IsBook B W F bk [] ∧ ∀ k, F k → c k = 6
  kbB : B ≤ kb
section
variable {B : Nat} {W W' w1 w2 : World} {c c' : Nat → Nat} {S : Nat → Prop} {kb bk : Nat} {vl vw v : Value} {ks : List Ke}
theorem KeptAt.only (h : KeptAt B W c kb bk vl vw ks) (ho : Only S W W') (hS : ∀ k, c k = 5 ∨ c k = 7 → ¬ S k) : KeptAt B W' c kb bk vl vw ks :=
  ⟨ho.blk h.blk (hS kb (.inl h.foot.1)), own_only h.lists ho fun k hk => hS k (.inl (h.foot.2.1 k hk)), own_only h.were ho fun k hk => hS k (.inl (h.foot.2.2 k hk)), h.ne,
    fun e he => own_only (h.rows e he) ho fun k hk => hS k (.inl ((h.footE e he).1 k hk)), fun e he => own_only (h.rows2 e he) ho fun k hk => hS k (.inr ((h.footE e he).2.2.1 k hk)),
    fun e he y hy => own_only (h.frames e he y hy) ho fun k hk => hS k (.inl ((h.footE e he).2.1 y hy k hk)), fun e he y hy => own_only (h.frames2 e he y hy) ho fun k hk => hS k (.inr ((h.footE e he).2.2.2 y hy k hk)),
    h.same, h.farR, h.far, h.foot, h.footE⟩
theorem KeptAt.colour (h : KeptAt B W c kb bk vl vw ks) (hc : ∀ k, k < W.heap.size → c k = 5 ∨ c k = 7 → c' k = c k) : KeptAt B W c' kb bk vl vw ks := by
  have c5 : ∀ k, k < W.heap.size → c k = 5 → c' k = 5 := fun k hk e => (hc k hk (.inl e)).trans e
  have c7 : ∀ k, k < W.heap.size → c k = 7 → c' k = 7 := fun k hk e => (hc k hk (.inr e)).trans e
  exact ⟨h.blk, h.lists, h.were, h.ne, h.rows, h.rows2, h.frames, h.frames2, h.same, h.farR, h.far, ⟨c5 kb h.blk.lt h.foot.1, fun k hk => c5 k (own_block h.lists k hk).2 (h.foot.2.1 k hk), fun k hk => c5 k (own_block h.were k hk).2 (h.foot.2.2 k hk)⟩,
    fun e he => ⟨fun k hk => c5 k (own_block (h.rows e he) k hk).2 ((h.footE e he).1 k hk), fun y hy k hk => c5 k (own_block (h.frames e he y hy) k hk).2 ((h.footE e he).2.1 y hy k hk), fun k hk => c7 k (own_block (h.rows2 e he) k hk).2 ((h.footE e he).2.2.1 k hk), fun y hy k hk => c7 k (own_block (h.frames2 e he y hy) k hk).2 ((h.footE e he).2.2.2 y hy k hk)⟩⟩
theorem Kept.only (h : Kept B W c kb bk ks) (ho : Only S W W') (hS : ∀ k, c k = 5 ∨ c k = 6 ∨ c k = 7 → ¬ S k) : Kept B W' c kb bk ks := by
  obtain ⟨⟨vl, vw, hA⟩, ⟨F, hB, hF⟩, h3⟩ := h
  exact ⟨⟨vl, vw, hA.only ho fun k hk => hS k (hk.imp id .inr)⟩, ⟨F, hB.only ho fun k hk => hS k (.inr (.inl (hF k hk))), hF⟩, h3⟩
theorem Kept.nil (h : Kept B W c kb bk ks) (ho : Only Nil W W') : Kept B W' c kb bk ks := h.only ho fun _ _ e => e
theorem Kept.colour (h : Kept B W c kb bk ks) (hc : ∀ k, k < W.heap.size → c k = 5 ∨ c k = 6 ∨ c k = 7 → c' k = c k) : Kept B W c' kb bk ks := by
  obtain ⟨⟨vl, vw, hA⟩, ⟨F, hB, hF⟩, h3⟩ := h
  exact ⟨⟨vl, vw, hA.colour fun k hk h => hc k hk (h.imp id .inr)⟩, ⟨F, hB, fun k hk => (hc k (hB.own k hk).2 (.inr (.inl (hF k hk)))).trans (hF k hk)⟩, h3⟩
/-- A row of lists grows by one; its header is set. -/
theorem grow1 {t : TypeId} {cs xs : List Value} {n i g cap : Nat} {x : Value} (ht : t ≠ 31) (hb : Blk W kb t cs) (hr : W.ownsRow B 31 1 v n xs) (h1 : Only Nil W w1) (hg : Grew w1 w2 B 31 v n 1 xs [x] g cap) :
    Blk (w2.setCell ⟨kb, i, none⟩ (.slice (some ⟨g, 0, none⟩) (n + 1) cap)) kb t (cs.set i (.slice (some ⟨g, 0, none⟩) (n + 1) cap)) ∧
      (w2.setCell ⟨kb, i, none⟩ (.slice (some ⟨g, 0, none⟩) (n + 1) cap)).ownsRow B 31 1 (.slice (some ⟨g, 0, none⟩) (n + 1) cap) (n + 1) (xs ++ [x]) ∧
      Only (fun k => v.ownBlock = some k ∨ k = kb) W (w2.setCell ⟨kb, i, none⟩ (.slice (some ⟨g, 0, none⟩) (n + 1) cap)) ∧ (v.ownBlock = some g ∨ W.heap.size ≤ g) ∧ w2.cell? ⟨kb, i, none⟩ = cs[i]? ∧ w2.frozen? ⟨kb, i, none⟩ = false := by
  have hb1 := h1.blk hb id
  have hr1 := own_only hr h1 fun _ _ e => e
  have hn : v.ownBlock ≠ some kb := ownN_far hr1 hb1 (Ne.symm ht)
  have hO : Only (fun k => v.ownBlock = some k) w1 w2 := Only.of_grown hg.grown fun k hk => .inl hk
  have hb2 := hO.blk hb1 hn
  have ho : Only (One kb) w2 (w2.setCell ⟨kb, i, none⟩ (.slice (some ⟨g, 0, none⟩) (n + 1) cap)) := (Only.refl _ _).setCell (p := ⟨kb, i, none⟩) (.inl (One.self kb)) _
  have hgk : g ≠ kb := fun e => by
    rcases hg.at' with h2 | h2
    · exact hn (by rw [h2, e])
    · have := hb1.lt
      omega
  refine ⟨hb2.set i _, own_only hg.own ho fun k hk e => hgk (by have : g = k := Option.some.inj hk; rw [this]; exact e), ((h1.mono (T := fun k => v.ownBlock = some k ∨ k = kb) fun _ _ e => e.elim).then (hO.mono fun _ _ e => .inl e)).setCell (p := ⟨kb, i, none⟩) (.inl (.inr rfl)) _, hg.at'.imp id fun e => by rw [e]; exact h1.size, hb2.cell i, hb2.free i⟩
theorem KeptAt.took {e : Ke} {w8 : World} {g7 c7 g9 c9 : Nat} (hA : KeptAt B W c kb bk vl vw ks) (hcn : ∀ k, W.heap.size ≤ k → c k = 5)
    (hrow : W.ownsRow B 39 1 e.l e.es.length (e.es.map Wy.d)) (hrow2 : W.ownsRow B 39 1 e.m e.fs.length (e.fs.map Wy.d)) (hfr : ∀ y ∈ e.es, OwnB B W y.d y.bs) (hfr2 : ∀ y ∈ e.fs, OwnB B W y.d y.bs) (hsame : e.es.map Wy.bs = e.fs.map Wy.bs)
    (hfarR : ∀ e' ∈ ks, FarR e' e) (hfar : e.es.Pairwise Far) (hfar2 : ∀ e' ∈ ks, ∀ y ∈ e'.es, ∀ z ∈ e.es, Far y z)
    (hc : (∀ k, e.l.ownBlock = some k → c k = 5) ∧ (∀ y ∈ e.es, ∀ k, y.d.ownBlock = some k → c k = 5) ∧ (∀ k, e.m.ownBlock = some k → c k = 7) ∧ ∀ y ∈ e.fs, ∀ k, y.d.ownBlock = some k → c k = 7)
    (hl8 : w8.ownsRow B 31 1 (.slice (some ⟨g7, 0, none⟩) (ks.length + 1) c7) (ks.length + 1) (ks.map Ke.l ++ [e.l])) (ho8 : Only (fun k => vl.ownBlock = some k ∨ k = kb) W w8) (hat8 : vl.ownBlock = some g7 ∨ W.heap.size ≤ g7)
    (hb : Blk W' kb 37 [.pointer (some ⟨bk, 0, none⟩), .slice (some ⟨g7, 0, none⟩) (ks.length + 1) c7, .slice (some ⟨g9, 0, none⟩) (ks.length + 1) c9])
    (hw9 : W'.ownsRow B 31 1 (.slice (some ⟨g9, 0, none⟩) (ks.length + 1) c9) (ks.length + 1) (ks.map Ke.m ++ [e.m])) (ho9 : Only (fun k => vw.ownBlock = some k ∨ k = kb) w8 W') (hat9 : vw.ownBlock = some g9 ∨ w8.heap.size ≤ g9) :
    Only (fun k => c k = 5) W W' ∧ KeptAt B W' c kb bk (.slice (some ⟨g7, 0, none⟩) (ks.length + 1) c7) (.slice (some ⟨g9, 0, none⟩) (ks.length + 1) c9) (ks ++ [e]) := by
  have hS : ∀ {t : TypeId} {cs : List Value} {k : Nat}, Blk W k t cs → t ≠ 31 → t ≠ 37 → Blk W' k t cs := fun {t cs k} hbk h1 h2 => by
    have n1 : ¬ k = kb := fun e => h2 (blk_type hbk (e ▸ hA.blk))
    exact ho9.blk (ho8.blk hbk fun e => e.elim (ownN_far hA.lists hbk (Ne.symm h1)) n1) fun e => e.elim (ownN_far hA.were hbk (Ne.symm h1)) n1
  have hown : ∀ {t : TypeId} {v : Value} {n : Nat} {xs : List Value}, W.ownsRow B t 1 v n xs → t ≠ 31 → t ≠ 37 → W'.ownsRow B t 1 v n xs := fun {t v n xs} hr h1 h2 => by
    refine ⟨hr.1, hr.2.imp id fun ⟨g, cap, cur, e1, e2, e3, e4⟩ => ⟨g, cap, cur, e1, e2, ?_, e4⟩⟩
    have := hS (t := t) (cs := cur.toList) (k := g) (by unfold Blk; simpa using e3) h1 h2
    unfold Blk at this
    simpa using this
  have hg7 : ∀ {k}, g7 = k → k < w8.heap.size := fun {k} e => e ▸ (own_block hl8 g7 rfl).2
  have hO : Only (fun k => c k = 5) W W' := (ho8.mono (T := fun k => c k = 5) fun k _ e => e.elim (hA.foot.2.1 k) fun e => by rw [e]; exact hA.foot.1).then (ho9.mono fun k _ e => e.elim (hA.foot.2.2 k) fun e => by rw [e]; exact hA.foot.1)
  have hg7w : vw.ownBlock ≠ some g7 := fun e => by
    rcases hat8 with h | h
    · exact hA.ne g7 h e
    · have := (own_block hA.were g7 e).2
      omega
  have hg7k : ¬ g7 = kb := fun e => by
    rcases hat8 with h | h
    · exact ownN_far hA.lists hA.blk (by decide) (e ▸ h)
    · have := hA.blk.lt
      omega
  have hlen : (ks ++ [e]).length = ks.length + 1 := by simp
  refine ⟨hO, ⟨hb, ?_, ?_, fun k hk hk2 => ?_, fun e' he => ?_, fun e' he => ?_, fun e' he => ?_, fun e' he => ?_, fun e' he => ?_, ?_, ?_, ⟨hA.foot.1, fun k hk => ?_, fun k hk => ?_⟩, fun e' he => ?_⟩⟩
  · rw [hlen, List.map_append]
    exact own_only hl8 ho9 fun k hk e => by
      obtain rfl : g7 = k := Option.some.inj hk
      exact e.elim hg7w hg7k
  · rw [hlen, List.map_append]
    exact hw9
  · obtain rfl : g7 = k := Option.some.inj hk
    obtain rfl : g9 = g7 := Option.some.inj hk2
    rcases hat9 with h | h
    · exact hg7w h
    · have := hg7 rfl
      omega
  · rcases List.mem_append.1 he with he | he
    · exact hown (hA.rows e' he) (by decide) (by decide)
    · rw [List.mem_singleton.1 he]
      exact hown hrow (by decide) (by decide)
  · rcases List.mem_append.1 he with he | he
    · exact hown (hA.rows2 e' he) (by decide) (by decide)
    · rw [List.mem_singleton.1 he]
      exact hown hrow2 (by decide) (by decide)
  · rcases List.mem_append.1 he with he | he
    · exact fun y hy => hown (hA.frames e' he y hy) (by decide) (by decide)
    · rw [List.mem_singleton.1 he]
      exact fun y hy => hown (hfr y hy) (by decide) (by decide)
  · rcases List.mem_append.1 he with he | he
    · exact fun y hy => hown (hA.frames2 e' he y hy) (by decide) (by decide)
    · rw [List.mem_singleton.1 he]
      exact fun y hy => hown (hfr2 y hy) (by decide) (by decide)
  · rcases List.mem_append.1 he with he | he
    · exact hA.same e' he
    · rw [List.mem_singleton.1 he]
      exact hsame
  · rw [List.pairwise_append]
    exact ⟨hA.farR, List.pairwise_singleton _ _, fun a ha b hb => by rw [List.mem_singleton.1 hb]; exact hfarR a ha⟩
  · rw [List.flatMap_append, List.pairwise_append]
    refine ⟨hA.far, by simpa using hfar, fun y hy z hz => ?_⟩
    obtain ⟨e', he', hy'⟩ := List.mem_flatMap.1 hy
    exact hfar2 e' he' y hy' z (by simpa using hz)
  · obtain rfl : g7 = k := Option.some.inj hk
    rcases hat8 with h | h
    · exact hA.foot.2.1 _ h
    · exact hcn _ h
  · obtain rfl : g9 = k := Option.some.inj hk
    rcases hat9 with h | h
    · exact hA.foot.2.2 _ h
    · exact hcn _ (Nat.le_trans ho8.size h)
  · rcases List.mem_append.1 he with he | he
    · exact hA.footE e' he
    · rw [List.mem_singleton.1 he]
      exact hc
set_option maxHeartbeats 3200000 in
theorem ktake_any (h : Kept B W c kb bk ks) (e : Ke) (hcn : ∀ k, W.heap.size ≤ k → c k = 5)
    (hrow : W.ownsRow B 39 1 e.l e.es.length (e.es.map Wy.d)) (hrow2 : W.ownsRow B 39 1 e.m e.fs.length (e.fs.map Wy.d)) (hfr : ∀ y ∈ e.es, OwnB B W y.d y.bs) (hfr2 : ∀ y ∈ e.fs, OwnB B W y.d y.bs) (hsame : e.es.map Wy.bs = e.fs.map Wy.bs)
    (hfarR : ∀ e' ∈ ks, FarR e' e) (hfar : e.es.Pairwise Far) (hfar2 : ∀ e' ∈ ks, ∀ y ∈ e'.es, ∀ z ∈ e.es, Far y z)
    (hc : (∀ k, e.l.ownBlock = some k → c k = 5) ∧ (∀ y ∈ e.es, ∀ k, y.d.ownBlock = some k → c k = 5) ∧ (∀ k, e.m.ownBlock = some k → c k = 7) ∧ ∀ y ∈ e.fs, ∀ k, y.d.ownBlock = some k → c k = 7) (hn : ks.length ≤ 100000000000) :
    Calls Try.prog 23 #[.pointer (some ⟨kb, 0, none⟩), e.l, e.m] W fun r W' => r = .returned (.tuple #[]) ∧ Only (fun k => c k = 5) W W' ∧ Kept B W' c kb bk (ks ++ [e]) := by
  obtain ⟨⟨vl, vw, hA⟩, ⟨FB, hB, hFB⟩, hkB⟩ := h
  obtain ⟨ir, hir, hrz, hrs, hrb⟩ := info_parts info_rows3
  obtain ⟨Al, cl, rfl⟩ := own_slice1 hA.lists
  obtain ⟨Aw, cw, rfl⟩ := own_slice1 hA.were
  obtain ⟨el, es, em, fs⟩ := e
  dsimp only at hrow hrow2 hfr hfr2 hsame hfar hfar2 hc ⊢
  obtain ⟨Ae, ce, rfl⟩ := own_slice1 hrow
  obtain ⟨Am, cm, rfl⟩ := own_slice1 hrow2
  have c0 : W.cell? ⟨kb, 1, none⟩ = some (.slice Al ks.length cl) := hA.blk.cell 1
  have hBW := hB.base
  have HA := Lib.hid hA
  have HBK := Lib.hid (show IsBook B W FB bk [] ∧ ∀ k, FB k → c k = 6 from ⟨hB, hFB⟩)
  have HT := Lib.hid (fun (w8 W' : World) (g7 c7 g9 c9 : Nat) => hA.took (e := ⟨.slice Ae es.length ce, es, .slice Am fs.length cm, fs⟩) (w8 := w8) (W' := W') (g7 := g7) (c7 := c7) (g9 := g9) (c9 := c9) hcn hrow hrow2 hfr hfr2 hsame hfarR hfar hfar2 hc)
  clear hA hB hFB hcn hrow hrow2 hfr hfr2 hsame hfarR hfar hfar2 hc
  go_enter Try.func23, Try.ntmps23
  go_upto_region 1 with ((with_reducible show wpList _ _ _ (Oper.mk _ (.call { callee := .builtin .append, args := _, argTypes := _ }) _ _ _ _ :: _) _ _); refine wpList_append_row rfl (.tmp 10) (.tmp 12) 35 rfl B 31 ir _ 24 Try.underlying35 hir hrz hrs hrb rfl (.slice Al ks.length cl) ks.length (ks.map Ke.l) rfl (own_only HA.out.lists ((Only.refl Nil W).alloc _) fun _ _ e => e) _ 1 1 [.slice Ae es.length ce] rfl rfl (news_block (Blk.new W _ _)) (by intro u hu; rw [List.mem_singleton.1 hu]; rfl) (by omega) (by unfold maxLen; omega) (by omega) (by simp; omega) ?_; intro g7 cap7 w7 hg7; have HGR := Lib.hid (grow1 (i := 1) (by decide) HA.out.blk HA.out.lists ((Only.refl Nil W).alloc _) hg7); have d0 := HGR.out.2.2.2.2.1; have z0 := HGR.out.2.2.2.2.2; clear hg7)
  obtain ⟨hb8, hl8, ho8, hat8, _, _⟩ := HGR.out
  have hw8 := own_only HA.out.were ho8 fun k hk e => e.elim (fun e => HA.out.ne k e hk) fun e => ownN_far HA.out.were HA.out.blk (by decide) (e ▸ hk)
  have H8 := Lib.hid (show _ ∧ _ ∧ _ ∧ _ ∧ _ from ⟨hb8, hl8, ho8, hat8, hw8⟩)
  clear d0 z0 HGR c0
  generalize w7.setCell ⟨kb, 1, none⟩ (.slice (some ⟨g7, 0, none⟩) (ks.length + 1) cap7) = w8 at *
  have c1 : w8.cell? ⟨kb, 2, none⟩ = some (.slice Aw ks.length cw) := hb8.cell 2
  have hsz := ho8.size
  clear hb8 hl8 ho8 hat8 hw8
  go_wp2_with ((with_reducible show wpList _ _ _ (Oper.mk _ (.call { callee := .builtin .append, args := _, argTypes := _ }) _ _ _ _ :: _) _ _); refine wpList_append_row rfl (.tmp 20) (.tmp 22) 35 rfl B 31 ir _ 24 Try.underlying35 hir hrz hrs hrb rfl (.slice Aw ks.length cw) ks.length (ks.map Ke.m) rfl (own_only H8.out.2.2.2.2 ((Only.refl Nil w8).alloc _) fun _ _ e => e) _ 1 1 [.slice Am fs.length cm] rfl rfl (news_block (Blk.new w8 _ _)) (by intro u hu; rw [List.mem_singleton.1 hu]; rfl) (by omega) (by unfold maxLen; omega) (by omega) (by simp; omega) ?_; intro g9 cap9 w9 hg9; have HGR := Lib.hid (grow1 (i := 2) (by decide) H8.out.1 H8.out.2.2.2.2 ((Only.refl Nil w8).alloc _) hg9); have d0 := HGR.out.2.2.2.2.1; have z0 := HGR.out.2.2.2.2.2; clear hg9)
  go_end0
  obtain ⟨hO, hK⟩ := HT.out _ _ _ _ _ _ H8.out.2.1 H8.out.2.2.1 H8.out.2.2.2.1 HGR.out.1 HGR.out.2.1 HGR.out.2.2.1 HGR.out.2.2.2.1
  exact ⟨rfl, hO, ⟨_, _, hK⟩, ⟨FB, HBK.out.1.only hO fun k hk e => by have := HBK.out.2 k hk; omega, HBK.out.2⟩, hkB⟩
end
end Go.Proofs.Ytkkjnembjlgiaaa
