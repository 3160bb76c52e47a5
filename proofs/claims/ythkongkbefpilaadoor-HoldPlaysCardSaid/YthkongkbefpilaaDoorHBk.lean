/-
  The book of lists that came out (slipwayref01.Book): the wire's texts XBk .. XBk4, for this seat. PRINTED by wip/tools/mkbook.py.
-/
import Derived.Test.YthkongkbefpilaaDoorHe
namespace Go.Proofs.YthkongkbefpilaaDoor
set_option maxRecDepth 100000
open Go.RowKit

section
variable {W w : World} {B base sz n : Nat} {e : TypeId} {v : Value} {xs : List Value}
theorem blk_of_own {e : TypeId} {sz n : Nat} {v : Value} {xs : List Value} (h : W.ownsRow B e sz v n xs) {k : Nat} (hk : v.ownBlock = some k) : ∃ cs, Blk W k e cs := by
  rcases h.2 with ⟨rfl, _⟩ | ⟨g, cap, cur, rfl, _, hg, _⟩
  · cases hk
  · obtain rfl : g = k := Option.some.inj hk
    exact ⟨cur.toList, by unfold Blk; simpa using hg⟩
theorem blk_type {t t' : TypeId} {cs cs' : List Value} {k : Nat} (h : Blk W k t cs) (h' : Blk W k t' cs') : t = t' := by
  unfold Blk at h h'
  rw [h] at h'
  injection h' with h'
  injection h'
theorem ownN_far {t : TypeId} {cs : List Value} {g : Nat} (h : w.ownsRow base e sz v n xs) (hb : Blk w g t cs) (ht : e ≠ t) : v.ownBlock ≠ some g := by
  rcases h.2 with ⟨rfl, _⟩ | ⟨k, cap, cur, rfl, _, hh, _⟩
  · simp [Value.ownBlock]
  · intro hk
    obtain rfl : k = g := Option.some.inj hk
    rw [hb] at hh
    injection hh with hh
    injection hh with _ hh
    exact ht hh.symm
end


theorem info_rowB : (Tryd.prog.info? 26).map (fun i => (i.zero, i.size, i.bytes)) = some (some (.slice none 0 0), 1, 24) := by kernel_rfl
theorem info_strB : (Tryd.prog.info? 9).map (fun i => (i.zero, i.size, i.bytes)) = some (some (.string ByteArray.empty), 1, 16) := by kernel_rfl
abbrev Ls : Type := Value × List UInt8
def FarL (x y : Ls) : Prop := ∀ k, x.1.ownBlock = some k → y.1.ownBlock ≠ some k
theorem FarL.symm {x y : Ls} (h : FarL x y) : FarL y x := fun k h1 h2 => h k h2 h1
def strs (ls : List Ls) : List Value := ls.map fun x => .string (str x.2)
structure BookAt (B : Nat) (w : World) (F : Nat → Prop) (kb : Nat) (vl vw : Value) (ls : List Ls) : Prop where
  blk : Blk w kb 39 [vl, vw]
  lists : w.ownsRow B 26 1 vl ls.length (ls.map (·.1))
  was : w.ownsRow B 9 1 vw ls.length (strs ls)
  each : ∀ x ∈ ls, OwnB B w x.1 x.2
  far : ls.Pairwise FarL
  foot : F kb ∧ (∀ k, vl.ownBlock = some k → F k) ∧ (∀ k, vw.ownBlock = some k → F k) ∧ ∀ x ∈ ls, ∀ k, x.1.ownBlock = some k → F k
structure IsBook (B : Nat) (w : World) (F : Nat → Prop) (kb : Nat) (ls : List Ls) : Prop where
  at' : ∃ vl vw, BookAt B w F kb vl vw ls
  own : ∀ k, F k → B ≤ k ∧ k < w.heap.size
  base : B ≤ w.heap.size
section
variable {B : Nat} {w w' w1 w2 : World} {F S : Nat → Prop} {kb : Nat} {vl vw : Value} {ls : List Ls}
theorem BookAt.only (h : BookAt B w F kb vl vw ls) (ho : Only S w w') (hS : ∀ k, F k → ¬ S k) : BookAt B w' F kb vl vw ls :=
  ⟨ho.blk h.blk (hS kb h.foot.1), own_only h.lists ho fun k hk => hS k (h.foot.2.1 k hk), own_only h.was ho fun k hk => hS k (h.foot.2.2.1 k hk),
    fun x hx => own_only (h.each x hx) ho fun k hk => hS k (h.foot.2.2.2 x hx k hk), h.far, h.foot⟩
theorem IsBook.only (h : IsBook B w F kb ls) (ho : Only S w w') (hS : ∀ k, F k → ¬ S k) : IsBook B w' F kb ls := by
  obtain ⟨vl, vw, hA⟩ := h.at'
  exact ⟨⟨vl, vw, hA.only ho hS⟩, fun k hk => ⟨(h.own k hk).1, Nat.lt_of_lt_of_le (h.own k hk).2 ho.size⟩, Nat.le_trans h.base ho.size⟩
theorem own_slice1 {e : TypeId} {v : Value} {n : Nat} {xs : List Value} (h : w.ownsRow B e 1 v n xs) : ∃ A c, v = .slice A n c := by
  rcases h.2 with ⟨rfl, h0⟩ | ⟨g, cap, cur, rfl, _⟩
  · exact ⟨none, 0, by rw [h0]⟩
  · exact ⟨_, _, rfl⟩
/-- The first field's row grows. -/
theorem BookAt.grewL (h : BookAt B w F kb vl vw ls) {x : Value} {g cap : Nat} (h1 : Only Nil w w1) (hg : Grew w1 w2 B 26 vl ls.length 1 (ls.map (·.1)) [x] g cap) :
    Blk (w2.setCell ⟨kb, 0, none⟩ (.slice (some ⟨g, 0, none⟩) (ls.length + 1) cap)) kb 39 [.slice (some ⟨g, 0, none⟩) (ls.length + 1) cap, vw] ∧
      (w2.setCell ⟨kb, 0, none⟩ (.slice (some ⟨g, 0, none⟩) (ls.length + 1) cap)).ownsRow B 26 1 (.slice (some ⟨g, 0, none⟩) (ls.length + 1) cap) (ls.length + 1) (ls.map (·.1) ++ [x]) ∧
      Only F w (w2.setCell ⟨kb, 0, none⟩ (.slice (some ⟨g, 0, none⟩) (ls.length + 1) cap)) ∧ (∀ {t : TypeId} {n : Nat} {v : Value} {xs : List Value} {B' : Nat}, w.ownsRow B' t 1 v n xs → t ≠ 26 → t ≠ 39 → (w2.setCell ⟨kb, 0, none⟩ (.slice (some ⟨g, 0, none⟩) (ls.length + 1) cap)).ownsRow B' t 1 v n xs) ∧ (vl.ownBlock = some g ∨ w1.heap.size ≤ g) ∧ w2.cell? ⟨kb, 0, none⟩ = some vl ∧ w2.frozen? ⟨kb, 0, none⟩ = false := by
  have h' := h.only h1 fun _ _ e => e
  have hn : vl.ownBlock ≠ some kb := ownN_far h'.lists h'.blk (by decide)
  have hO : Only (fun k => vl.ownBlock = some k) w1 w2 := Only.of_grown hg.grown fun k hk => .inl hk
  have hb := hO.blk h'.blk hn
  have ho : Only (One kb) w2 (w2.setCell ⟨kb, 0, none⟩ (.slice (some ⟨g, 0, none⟩) (ls.length + 1) cap)) := (Only.refl _ _).setCell (p := ⟨kb, 0, none⟩) (.inl (One.self kb)) _
  have hgk : g ≠ kb := fun e => by
    rcases hg.at' with h2 | h2
    · exact hn (by rw [h2, e])
    · have := h'.blk.lt
      omega
  refine ⟨hb.set 0 _, own_only hg.own ho fun k hk e => hgk (by have : g = k := Option.some.inj hk; rw [this]; exact e), ((h1.mono (T := F) fun _ _ e => e.elim).trans hO fun k hk => .inl (h.foot.2.1 k hk)).setCell (p := ⟨kb, 0, none⟩) (.inl h.foot.1) _, fun {t n v xs B'} hr ht1 ht2 => ?_, hg.at'.imp id fun e => Nat.le_of_eq e.symm, hb.cell 0, hb.free 0⟩
  have hr1 := own_only hr h1 fun _ _ e => e
  have hr2 := own_only hr1 hO fun k hk e => by
    obtain ⟨cs, hbl⟩ := blk_of_own h'.lists e
    exact ownN_far hr1 hbl ht1 hk
  exact own_only hr2 ho fun k hk e => ownN_far hr2 hb ht2 (by rw [hk, show k = kb from e])
theorem BookAt.grewW {w0 : World} (hb0 : Blk w kb 39 [vl, vw]) {xs : List Value} {n : Nat} (hw : w.ownsRow B 9 1 vw n xs) {x : Value} {g cap : Nat} (h1 : Only Nil w w1) (hg : Grew w1 w2 B 9 vw n 1 xs [x] g cap)
    (h0 : Only F w0 w) (hF : F kb ∧ ∀ k, vw.ownBlock = some k → F k) :
    Blk (w2.setCell ⟨kb, 1, none⟩ (.slice (some ⟨g, 0, none⟩) (n + 1) cap)) kb 39 [vl, .slice (some ⟨g, 0, none⟩) (n + 1) cap] ∧
      (w2.setCell ⟨kb, 1, none⟩ (.slice (some ⟨g, 0, none⟩) (n + 1) cap)).ownsRow B 9 1 (.slice (some ⟨g, 0, none⟩) (n + 1) cap) (n + 1) (xs ++ [x]) ∧
      Only F w0 (w2.setCell ⟨kb, 1, none⟩ (.slice (some ⟨g, 0, none⟩) (n + 1) cap)) ∧ (∀ {t : TypeId} {n' : Nat} {v : Value} {ys : List Value} {B' : Nat}, w.ownsRow B' t 1 v n' ys → t ≠ 9 → t ≠ 39 → (w2.setCell ⟨kb, 1, none⟩ (.slice (some ⟨g, 0, none⟩) (n + 1) cap)).ownsRow B' t 1 v n' ys) ∧ (vw.ownBlock = some g ∨ w1.heap.size ≤ g) ∧ w2.cell? ⟨kb, 1, none⟩ = some vw ∧ w2.frozen? ⟨kb, 1, none⟩ = false := by
  have hw1 := own_only hw h1 fun _ _ e => e
  have hb1 := h1.blk hb0 id
  have hn : vw.ownBlock ≠ some kb := ownN_far hw1 hb1 (by decide)
  have hO : Only (fun k => vw.ownBlock = some k) w1 w2 := Only.of_grown hg.grown fun k hk => .inl hk
  have hb := hO.blk hb1 hn
  have ho : Only (One kb) w2 (w2.setCell ⟨kb, 1, none⟩ (.slice (some ⟨g, 0, none⟩) (n + 1) cap)) := (Only.refl _ _).setCell (p := ⟨kb, 1, none⟩) (.inl (One.self kb)) _
  have hgk : g ≠ kb := fun e => by
    rcases hg.at' with h2 | h2
    · exact hn (by rw [h2, e])
    · have := hb1.lt
      omega
  refine ⟨hb.set 1 _, own_only hg.own ho fun k hk e => hgk (by have : g = k := Option.some.inj hk; rw [this]; exact e), (h0.then ((h1.mono (T := F) fun _ _ e => e.elim).trans hO fun k hk => .inl (hF.2 k hk))).setCell (p := ⟨kb, 1, none⟩) (.inl hF.1) _, fun {t n' v ys B'} hr ht1 ht2 => ?_, hg.at'.imp id fun e => Nat.le_of_eq e.symm, hb.cell 1, hb.free 1⟩
  have hr1 := own_only hr h1 fun _ _ e => e
  have hr2 := own_only hr1 hO fun k hk e => by
    obtain ⟨cs, hbl⟩ := blk_of_own hw1 e
    exact ownN_far hr1 hbl ht1 hk
  exact own_only hr2 ho fun k hk e => ownN_far hr2 hb ht2 (by rw [hk, show k = kb from e])
end


theorem OwnB.reads' {B : Nat} {w : World} {v : Value} {bs : List UInt8} (h : OwnB B w v bs) : RB w v bs := by
  rcases h.2 with ⟨e1, h0⟩ | ⟨g, cap, cur, e1, hBg, hcur, hnc, hcm, hcs, htk⟩
  · obtain hb : bs = [] := List.eq_nil_of_length_eq_zero h0
    rw [e1, hb]
    exact RB.nil _ _ _
  · rw [e1]
    refine ⟨_, cap, rfl, hnc, fun _ => ⟨g, 0, rfl, fun i hi => ?_⟩⟩
    have h2 := h
    unfold OwnB at h2
    rw [e1] at h2
    have := World.ownsRow.cells h2 (g := g) rfl i _ (BC_get _ i hi)
    rwa [Addr.add_mid] at this
section
variable {B : Nat} {w w' w1 w2 : World} {F S : Nat → Prop} {kb : Nat} {ls : List Ls}
theorem BookAt.took {w8 : World} {vl vw v : Value} {bs : List UInt8} {g7 g9 c7 c9 : Nat} (hA : BookAt B w F kb vl vw ls) (hI : IsBook B w F kb ls) (hfar : ∀ k, v.ownBlock = some k → ¬ F k)
    (hl8 : w8.ownsRow B 26 1 (.slice (some ⟨g7, 0, none⟩) (ls.length + 1) c7) (ls.length + 1) (ls.map (·.1) ++ [v])) (hx8 : OwnB B w8 v bs) (he8 : ∀ x ∈ ls, OwnB B w8 x.1 x.2)
    (hat : vl.ownBlock = some g7 ∨ w.heap.size ≤ g7) (ho8 : Only F w w8)
    (hb : Blk w' kb 39 [.slice (some ⟨g7, 0, none⟩) (ls.length + 1) c7, .slice (some ⟨g9, 0, none⟩) (ls.length + 1) c9])
    (hs : w'.ownsRow B 9 1 (.slice (some ⟨g9, 0, none⟩) (ls.length + 1) c9) (ls.length + 1) (strs ls ++ [.string (str bs)])) (ho : Only F w w')
    (hk : ∀ {t : TypeId} {n' : Nat} {v : Value} {ys : List Value} {B' : Nat}, w8.ownsRow B' t 1 v n' ys → t ≠ 9 → t ≠ 39 → w'.ownsRow B' t 1 v n' ys)
    (hat9 : vw.ownBlock = some g9 ∨ w8.heap.size ≤ g9) :
    Only F w w' ∧ ∃ F', IsBook B w' F' kb (ls ++ [(v, bs)]) ∧ ∀ k, F' k → F k ∨ v.ownBlock = some k ∨ w.heap.size ≤ k := by
  have hl' := hk hl8 (by decide) (by decide)
  have hx' : OwnB B w' v bs := hk hx8 (by decide) (by decide)
  have hlen : (ls ++ [(v, bs)]).length = ls.length + 1 := by simp
  refine ⟨ho, fun k => F k ∨ v.ownBlock = some k ∨ w.heap.size ≤ k ∧ k < w'.heap.size, ⟨⟨_, _, ⟨hb, ?_, ?_, fun x hx => ?_, ?_, .inl hA.foot.1, fun k hk => ?_, fun k hk => ?_, fun x hx k hk => ?_⟩⟩, fun k hk => ?_, Nat.le_trans hI.base ho.size⟩, fun k hk => hk.imp id fun h => h.imp id fun h => h.1⟩
  · rw [hlen, List.map_append]
    exact hl'
  · rw [hlen, strs, List.map_append]
    exact hs
  · rcases List.mem_append.1 hx with h | h
    · exact hk (he8 x h) (by decide) (by decide)
    · rw [List.mem_singleton.1 h]
      exact hx'
  · refine List.pairwise_append.2 ⟨hA.far, List.pairwise_singleton _ _, fun a ha b hb k h1 h2 => ?_⟩
    rw [List.mem_singleton.1 hb] at h2
    exact hfar k h2 (hA.foot.2.2.2 a ha k h1)
  · obtain rfl : g7 = k := Option.some.inj hk
    rcases hat with h | h
    · exact .inl (hA.foot.2.1 _ h)
    · obtain ⟨cs, hbl⟩ := blk_of_own hl' rfl
      exact .inr (.inr ⟨h, hbl.lt⟩)
  · obtain rfl : g9 = k := Option.some.inj hk
    rcases hat9 with h | h
    · exact .inl (hA.foot.2.2.1 _ h)
    · obtain ⟨cs, hbl⟩ := blk_of_own hs rfl
      exact .inr (.inr ⟨Nat.le_trans ho8.size h, hbl.lt⟩)
  · rcases List.mem_append.1 hx with h | h
    · exact .inl (hA.foot.2.2.2 x h k hk)
    · rw [List.mem_singleton.1 h] at hk
      exact .inr (.inl hk)
  · rcases hk with h | h | h
    · exact ⟨(hI.own k h).1, Nat.lt_of_lt_of_le (hI.own k h).2 ho.size⟩
    · obtain ⟨cs, hbl⟩ := blk_of_own hx' h
      refine ⟨?_, hbl.lt⟩
      rcases hx'.2 with ⟨e1, _⟩ | ⟨g, cap, cur, e1, hBg, _⟩
      · rw [e1] at h
        cases h
      · rw [e1] at h
        obtain rfl : g = k := Option.some.inj h
        exact hBg
    · exact ⟨Nat.le_trans hI.base h.1, h.2⟩
set_option maxHeartbeats 1600000 in
theorem take_any (h : IsBook B w F kb ls) (v : Value) (bs : List UInt8) (hx : OwnB B w v bs) (hfar : ∀ k, v.ownBlock = some k → ¬ F k) (hn : ls.length ≤ 100000000000) :
    Calls Tryd.prog 32 #[.pointer (some ⟨kb, 0, none⟩), v] w fun e w' => e = .returned (.tuple #[]) ∧ Only F w w' ∧ ∃ F', IsBook B w' F' kb (ls ++ [(v, bs)]) ∧ ∀ k, F' k → F k ∨ v.ownBlock = some k ∨ w.heap.size ≤ k := by
  obtain ⟨vl, vw, hA⟩ := h.at'
  obtain ⟨ir, hir, hrz, hrs, hrb⟩ := info_parts info_rowB
  obtain ⟨ist, hist, hsz, hss, hsb⟩ := info_parts info_strB
  obtain ⟨Al, cl, rfl⟩ := own_slice1 hA.lists
  obtain ⟨Aw, cw, rfl⟩ := own_slice1 hA.was
  obtain ⟨Av, cv, rfl⟩ := own_slice1 hx
  have c0 : w.cell? ⟨kb, 0, none⟩ = some (.slice Al ls.length cl) := hA.blk.cell 0
  have HH := Lib.hid h
  have HA := Lib.hid hA
  have HX := Lib.hid hx
  have HFA := Lib.hid hfar
  clear h hA hx hfar
  go_enter Tryd.func32, Tryd.ntmps32
  go_upto_region 1 with ((with_reducible show wpList _ _ _ (Oper.mk _ (.call { callee := .builtin .append, args := _, argTypes := _ }) _ _ _ _ :: _) _ _); refine wpList_append_row rfl (.tmp 8) (.tmp 10) 36 rfl B 26 ir _ 24 Tryd.underlying36 hir hrz hrs hrb rfl (.slice Al ls.length cl) ls.length (ls.map (·.1)) rfl (own_only HA.out.lists ((Only.refl Nil w).alloc _) fun _ _ e => e) ⟨w.heap.size, 0, none⟩ 1 1 [.slice Av bs.length cv] rfl rfl (news_block (Blk.new w _ _)) (by intro u hu; rw [List.mem_singleton.1 hu]; rfl) (by omega) (by unfold maxLen; omega) (by omega) (by have := HH.out.base; simp; omega) ?_; intro g7 cap7 w7 hg7; have HGR := Lib.hid (HA.out.grewL ((Only.refl Nil w).alloc (.cells #[.slice Av bs.length cv] 26)) hg7); have d0 := HGR.out.2.2.2.2.2.1; have z0 := HGR.out.2.2.2.2.2.2; clear hg7)
  obtain ⟨hb8, hl8, ho8, hk8, hat8, _, _⟩ := HGR.out
  have hw8 := hk8 HA.out.was (by decide) (by decide)
  have hx8 : OwnB B _ (.slice Av bs.length cv) bs := hk8 HX.out (by decide) (by decide)
  have he8 : ∀ x ∈ ls, OwnB B _ x.1 x.2 := fun x hx => hk8 (HA.out.each x hx) (by decide) (by decide)
  clear d0 z0 HGR hk8 c0
  generalize w7.setCell ⟨kb, 0, none⟩ (.slice (some ⟨g7, 0, none⟩) (ls.length + 1) cap7) = w8 at *
  have hat9 : (Value.slice Al ls.length cl).ownBlock = some g7 ∨ w.heap.size ≤ g7 := hat8.imp id fun e => by rw [World.size_alloc] at e; omega
  have H8 := Lib.hid (show _ ∧ _ ∧ _ ∧ _ ∧ _ ∧ _ ∧ _ from ⟨hb8, hl8, ho8, hw8, hx8, he8, hat9⟩)
  have c1 : w8.cell? ⟨kb, 1, none⟩ = some (.slice Aw ls.length cw) := hb8.cell 1
  have c1a : (w8.alloc (.cells #[.string (str bs)] 9)).cell? ⟨kb, 1, none⟩ = some (.slice Aw ls.length cw) := (Only.refl Nil w8).alloc (.cells #[.string (str bs)] 9) |>.blk H8.out.1 id |>.cell 1
  have c1b : (w8.drew.alloc (.cells #[.string (str bs)] 9)).cell? ⟨kb, 1, none⟩ = some (.slice Aw ls.length cw) := (Only.refl Nil w8).drew.alloc (.cells #[.string (str bs)] 9) |>.blk H8.out.1 id |>.cell 1
  have c1d : w8.drew.cell? ⟨kb, 1, none⟩ = some (.slice Aw ls.length cw) := c1
  have hstr : (convert 26 9 (.slice Av bs.length cv)).run Tryd.prog w8.drew = .ok (.string (str bs)) w8.drew := str_of (P := Tryd.prog) (src := 26) (e := 5) (dst := 9) Tryd.underlying26 Tryd.underlying5 Tryd.underlying9 (OwnB.reads' hx8).drew
  have hB8 : B ≤ w8.heap.size := Nat.le_trans HH.out.base ho8.size
  clear hb8 hl8 ho8 hw8 hx8 he8 hat8 hat9
  go_region_law ((refine step_append_row (by rfl) _ _ _ (by rfl) B 9 ist _ 16 Tryd.underlying37 hist hsz hss hsb rfl (.slice Aw ls.length cw) ls.length (strs ls) (by rfl) (own_only H8.out.2.2.2.1 (by first | exact (Only.refl Nil _).drew.alloc _ | exact ((Only.refl Nil _).alloc _).drew | exact (Only.refl Nil _).alloc _) fun _ _ => id) ⟨w8.heap.size, 0, none⟩ 1 1 [.string (str bs)] (by rfl) (by rfl) (news_block (Blk.new w8 9 [.string (str bs)])) (by intro u hu; rw [List.mem_singleton.1 hu]; rfl) (by omega) (by unfold maxLen; omega) (by omega) (by simp; omega) ?_; intro g9 cap9 w9 hg9; have HG := Lib.hid (BookAt.grewW H8.out.1 H8.out.2.2.2.1 (by first | exact (Only.refl Nil _).drew.alloc _ | exact ((Only.refl Nil _).alloc _).drew | exact (Only.refl Nil _).alloc _) hg9 H8.out.2.2.1 ⟨HA.out.foot.1, HA.out.foot.2.2.1⟩); have d1 := HG.out.2.2.2.2.2.1; have z1 := HG.out.2.2.2.2.2.2; clear hg9))
  all_goals
    have HB := Lib.hid (BookAt.took HA.out HH.out HFA.out H8.out.2.1 H8.out.2.2.2.2.1 H8.out.2.2.2.2.2.1 H8.out.2.2.2.2.2.2 H8.out.2.2.1 HG.out.1 HG.out.2.1 HG.out.2.2.1 HG.out.2.2.2.1 (HG.out.2.2.2.2.1.imp id fun e => Nat.le_trans (by first | exact ((Only.refl Nil w8).drew.alloc _).size | exact ((Only.refl Nil w8).alloc _).drew.size | exact ((Only.refl Nil w8).alloc _).size) e))
    clear HG H8 HA HX HFA
    go_wp2_with fail
    go_end0
    exact ⟨rfl, HB.out⟩
end


def mk8 (i n : Nat) : UInt8 := UInt8.ofNat (i * 7 + n * 13 + i / 256 + 1)
theorem mk8_by (i n : Nat) : by8 (mk8 i n) = ((i * 7 + n * 13 + i / 256 + 1 : Nat) : Int) % 256 := by
  unfold mk8 by8
  rw [UInt8.toNat_ofNat']
  omega
def marks (i n : Nat) : List UInt8 := (List.range n).map (mk8 i)
theorem marks_length (i n : Nat) : (marks i n).length = n := by simp [marks]
theorem marks_succ (i n : Nat) : marks i (n + 1) = marks i n ++ [mk8 i n] := by simp [marks, List.range_succ]
theorem marks_get (i n j : Nat) (h : j < n) : (marks i n).getD j 0 = mk8 i j := by simp [marks, List.getD, h]
theorem marks_put (i n : Nat) (bs : List UInt8) (h : n < bs.length) : (marks i n ++ bs.drop n).set n (mk8 i n) = marks i (n + 1) ++ bs.drop (n + 1) := by
  have e : (marks i n ++ bs.drop n).set n (mk8 i n) = marks i n ++ (bs.drop n).set (n - (marks i n).length) (mk8 i n) := List.set_append_right _ _ (by rw [marks_length]; exact Nat.le_refl _)
  rw [e, marks_succ, marks_length, Nat.sub_self, List.drop_eq_getElem_cons h, List.set_cons_zero, List.append_assoc]
  rfl
theorem marks_full (i : Nat) (bs : List UInt8) : marks i bs.length ++ bs.drop bs.length = marks i bs.length := by rw [List.drop_length, List.append_nil]
set_option maxHeartbeats 1600000 in
theorem mark_any (i n : Nat) (w : World) (hi : i ≤ 1000000000000) (hn : n ≤ 1000000000000) : Calls Tryd.prog 34 #[.int .i64 (i : Int), .int .i64 (n : Int)] w fun e w' => e = .returned (.int .u8 (by8 (mk8 i n))) ∧ w' = w := by
  rw [mk8_by]
  go_enter Tryd.func34, Tryd.ntmps34
  go_wp2
  go_ret
  exact ⟨by congr 2, rfl⟩
section
variable {P : Program} {w : World}
/-- A row that grew: where it stood, with the room that it had; or elsewhere, and what was stays. -/
def Grew2 (w w' : World) (base : Nat) (e : TypeId) (v : Value) (n m : Nat) (xs news : List Value) (g cap : Nat) : Prop :=
  Grew w w' base e v n m xs news g cap ∧ (v = .slice (some ⟨g, 0, none⟩) n cap ∨ (w.heap.size ≤ g ∧ Only Nil w w'))
theorem run_append_row2 (base : Nat) (t ty e : TypeId) (i : TypeInfo) (z : Value) (bytes : Nat) (ht : P.underlying t = some (.slice e)) (hi : P.info? e = some i) (hz : i.zero = some z)
    (hsize : i.size = 1) (hby : i.bytes = bytes) (hzs : z.cells.size = 1)
    (v : Value) (n : Nat) (xs : List Value) (hown : w.ownsRow base e 1 v n xs)
    (a : Addr) (m c : Nat) (news : List Value) (hl : news.length = m) (hnews : ∀ j u, news[j]? = some u → w.cell? (a.add j) = some u) (h1 : ∀ u ∈ news, u.oneCell' = true)
    (hm : 0 < m) (h63 : n + m ≤ maxLen) (hbytes : (n + m) * bytes ≤ 140737488355328) (hbase : base ≤ w.heap.size) :
    ∃ g cap w', (Builtin.append_ #[t, t] ty #[v, .slice (some a) m c]).run P w = .ok (.slice (some ⟨g, 0, none⟩) (n + m) cap) w' ∧ Grew2 w w' base e v n m xs news g cap := by
  rcases hown.2 with ⟨rfl, rfl⟩ | ⟨g0, cap0, cur, rfl, hb, hg, hnc, hcm, hcs, htake⟩
  · obtain ⟨g, cap, w', hr, h2, h3, h4, _⟩ := run_append_lies (P := P) w t ty base e i z 1 bytes ht hi hz hsize hby hzs (by omega) _ 0 xs hown a m c news (by simpa using hl) hnews h1 hm h63 hbytes hbase _ rfl
    exact ⟨g, cap, w', hr, ⟨h2, h3, h4, fun g0 j u h => by cases h⟩, .inr ⟨h4.elim (fun h => by cases h) fun h => Nat.le_of_eq h.symm, Only.of_grown h3 fun k hk => by cases hk⟩⟩
  · by_cases hfit : n + m ≤ cap0
    · obtain ⟨w', hr, h2, h3⟩ := run_append_fits (P := P) w base t ty e i 1 ht hi hsize g0 n cap0 xs hown a m c news (by simpa using hl) hnews h1 hfit
      refine ⟨g0, cap0, w', hr, ⟨h2, h3, .inl rfl, fun g1 j u hg1 hu => ?_⟩, .inl rfl⟩
      obtain rfl : g0 = g1 := Option.some.inj hg1
      have hj : j < xs.length := (List.getElem?_eq_some_iff.1 hu).1
      have := World.ownsRow.cells h2 (g := g0) rfl j u (by rw [List.getElem?_append_left hj]; exact hu)
      rwa [Addr.add_mid, Nat.zero_add] at this
    · have hc := fun j u hu => World.ownsRow.cells hown (g := g0) rfl j u hu
      obtain ⟨v', w', hr, h2, h3⟩ := run_append_arg_grows (P := P) w t ty e i z 1 bytes ht hi hz hsize hby hzs (by omega) ⟨g0, 0, none⟩ n cap0 xs hown.1 hc a m c news (by simpa using hl) hnews (by omega) h63 hbytes
      obtain ⟨g, cap, rfl, hgb, hlt⟩ := h2.form (by omega)
      have hlow : ∀ k, k < w.heap.size → w'.heap[k]? = w.heap[k]? := fun k hk => h3.block k hk (by simp)
      obtain ⟨v2, w2, hr2, h2a, h2b, _, h2d⟩ := run_append_own_at (P := P) w base t ty e i z 1 bytes ht hi hz hsize hby hzs (by omega) _ n xs hown a m c news (by simpa using hl) hnews h1 h63 hbytes hbase
      rw [hr] at hr2
      injection hr2 with e1 e2
      subst e1 e2
      have hg0 : g0 < w.heap.size := (Array.getElem?_eq_some_iff.1 hg).1
      refine ⟨g, cap, w', hr, ⟨h2a, h2b, ?_, fun g1 j u hg1 hu => ?_⟩, .inr ⟨hgb, Only.of_grown h3 fun k hk => by cases hk⟩⟩
      · rcases h2d with h | h
        · exact .inl h.symm
        · exact .inr (Option.some.inj h)
      · obtain rfl : g0 = g1 := Option.some.inj hg1
        have := World.ownsRow.cells hown (g := g0) rfl j u hu
        rw [Addr.add_mid, Nat.zero_add] at this
        exact (World.cell?_of_block (w := w) (hlow g0 hg0)).trans this
theorem wpList_append_row2 {ops : Array Oper} {rest : List Oper} {o : Oper} {a : Act} {Q : Exit → Act → World → Prop} (hgd : o.guard = none) (s x : Operand) (t : TypeId)
    (ho : o.op = .call { callee := .builtin .append, args := #[s, x], argTypes := #[t, t] })
    (base : Nat) (e : TypeId) (i : TypeInfo) (z : Value) (bytes : Nat) (ht : P.underlying t = some (.slice e)) (hi : P.info? e = some i) (hz : i.zero = some z)
    (hsize : i.size = 1) (hby : i.bytes = bytes) (hzs : z.cells.size = 1)
    (v : Value) (n : Nat) (xs : List Value) (hs : a.eval s = v) (hown : w.ownsRow base e 1 v n xs)
    (ad : Addr) (m c : Nat) (news : List Value) (hx : a.eval x = .slice (some ad) m c) (hl : news.length = m) (hnews : ∀ j u, news[j]? = some u → w.cell? (ad.add j) = some u) (h1 : ∀ u ∈ news, u.oneCell' = true)
    (hm : 0 < m) (h63 : n + m ≤ maxLen) (hbytes : (n + m) * bytes ≤ 140737488355328) (hbase : base ≤ w.heap.size)
    (h : ∀ g cap w', Grew2 w w' base e v n m xs news g cap → wpList P ops Q rest (a.put o.dst (.slice (some ⟨g, 0, none⟩) (n + m) cap)) w') : wpList P ops Q (o :: rest) a w := by
  refine wpList_plain hgd fun _ hK => ?_
  obtain ⟨g, cap, w', hrun, r⟩ := run_append_row2 (P := P) (w := w) base t o.type e i z bytes ht hi hz hsize hby hzs v n xs hown ad m c news hl hnews h1 hm h63 hbytes hbase
  unfold Oper.wp
  simp [execOp, ho, resolve, invoke, builtin, hs, hx, hrun, Result.andThen]
  exact hK _ _ (h g cap w' r)

end
/-- Whose block? List 'i' takes all that is new. -/
def Next (R : Nat → Nat → Prop) (n i : Nat) : Nat → Nat → Prop := fun k j => (k < n ∧ R k j) ∨ (n ≤ k ∧ j = i)
def Done (B : Nat) (w : World) (j : Nat) (x : Ls) (g : Value) (m : Nat) : Prop :=
  OwnB B w g (marks j (x.2.length + m)) ∧ ((∃ b c, x.1 = .slice (some ⟨b, 0, none⟩) x.2.length c ∧ g = .slice (some ⟨b, 0, none⟩) (x.2.length + m) c) ∨ (OwnB B w x.1 (marks j x.2.length) ∧ ∀ k, x.1.ownBlock = some k → g.ownBlock ≠ some k))
structure OwSt (B B1 : Nat) (kb : Nat) (vl vw : Value) (ls : List Ls) (lo i : Nat) (gs : List Value) (vg : Value) (R : Nat → Nat → Prop) (w : World) : Prop where
  blk : Blk w kb 39 [vl, vw]
  lists : w.ownsRow B 26 1 vl ls.length (ls.map (·.1))
  grown : w.ownsRow B1 26 1 vg i gs
  one : ∀ k j j', R k j → R k j' → j = j'
  later : ∀ j x, lo ≤ j → ls[j]? = some x → OwnB B w x.1 x.2 ∧ ∀ k, x.1.ownBlock = some k → R k j
  done : ∀ j x g, j < i → ls[j]? = some x → gs[j]? = some g → Done B w j x g 9 ∧ ∀ k, x.1.ownBlock = some k ∨ g.ownBlock = some k → R k j
  ne : ∀ k, vg.ownBlock = some k → vl.ownBlock ≠ some k
section
variable {B B1 : Nat} {w w' w1 w2 : World} {kb lo i n m : Nat} {vl vw vg g : Value} {ls : List Ls} {gs : List Value} {R : Nat → Nat → Prop} {S : Nat → Prop} {x : Ls}
theorem Next.one (h : ∀ k j j', R k j → R k j' → j = j') : ∀ k j j', Next R n i k j → Next R n i k j' → j = j' := by
  intro k j j' h1 h2
  rcases h1 with ⟨h1, h3⟩ | ⟨h1, h3⟩ <;> rcases h2 with ⟨h2, h4⟩ | ⟨h2, h4⟩
  · exact h k j j' h3 h4
  · omega
  · omega
  · omega
theorem OwnB.lt {v : Value} {bs : List UInt8} (h : OwnB B w v bs) {k : Nat} (hk : v.ownBlock = some k) : ∃ cs, Blk w k 5 cs := blk_of_own h hk
theorem Done.blks (h : Done B w i x g m) {k : Nat} (hk : x.1.ownBlock = some k ∨ g.ownBlock = some k) : ∃ cs, Blk w k 5 cs := by
  rcases hk with hk | hk
  · rcases h.2 with ⟨b, c, e1, e2⟩ | h2
    · refine h.1.lt (k := k) ?_
      rw [e2]
      rw [e1] at hk
      exact hk
    · exact h2.1.lt hk
  · exact h.1.lt hk
theorem Done.keep (h : Done B w i x g m) (ho : Only S w w') (hS : ∀ k, x.1.ownBlock = some k ∨ g.ownBlock = some k → ¬ S k) : Done B w' i x g m :=
  ⟨own_only h.1 ho fun k hk => hS k (.inr hk), h.2.imp id fun h => ⟨own_only h.1 ho fun k hk => hS k (.inl hk), h.2⟩⟩
theorem marks_take (i m q : Nat) : (marks i (m + q)).take m = marks i m := by
  unfold marks
  rw [← List.map_take, List.take_range, Nat.min_eq_left (Nat.le_add_right _ _)]
theorem OwnB.pre {b c q : Nat} (h : OwnB B w (.slice (some ⟨b, 0, none⟩) (m + q) c) (marks i (m + q))) : OwnB B w (.slice (some ⟨b, 0, none⟩) m c) (marks i m) := by
  unfold OwnB at h ⊢
  rw [marks_length] at h ⊢
  refine ⟨by rw [BC_length, marks_length, Nat.mul_one], ?_⟩
  rcases h.2 with ⟨h1, _⟩ | ⟨g, cap, cur, hv, hB, hg, hc, hm, hs, ht⟩
  · cases h1
  · refine .inr ⟨g, cap, cur, ?_, hB, hg, by omega, hm, hs, ?_⟩
    · injection hv with e1 e2 e3
      rw [e1, e3]
    · rw [← marks_take i m q]
      unfold BC at ht ⊢
      rw [List.map_take, ← ht, List.take_take, Nat.min_eq_left (by omega), Nat.mul_one]
theorem Done.zero (h : OwnB B w x.1 (marks i x.2.length)) : Done B w i x x.1 0 := by
  refine ⟨h, ?_⟩
  rcases h.2 with ⟨e, _⟩ | ⟨g, cap, cur, e, _⟩
  · refine .inr ⟨h, fun k hk => ?_⟩
    rw [e] at hk
    cases hk
  · rw [marks_length] at e
    exact .inl ⟨g, cap, e, e⟩
theorem Done.grew {q gg cap : Nat} (h : Done B w i x g q) (h1 : Only Nil w w1) (hg : Grew2 w1 w2 B 5 g (x.2.length + q) 1 (BC (marks i (x.2.length + q))) [.int .u8 (by8 (mk8 i (x.2.length + q)))] gg cap) :
    Done B w2 i x (.slice (some ⟨gg, 0, none⟩) (x.2.length + q + 1) cap) (q + 1) ∧ Only (fun k => g.ownBlock = some k) w w2 ∧ (g.ownBlock = some gg ∨ w.heap.size ≤ gg) := by
  have hO : Only (fun k => g.ownBlock = some k) w1 w2 := Only.of_grown hg.1.grown fun k hk => .inl hk
  have ho := (h1.mono (T := fun k => g.ownBlock = some k) fun _ _ e => e.elim).then hO
  have hown : OwnB B w2 (.slice (some ⟨gg, 0, none⟩) (x.2.length + q + 1) cap) (marks i (x.2.length + (q + 1))) := by
    unfold OwnB
    rw [marks_length, ← Nat.add_assoc, marks_succ, BC_append]
    exact hg.1.own
  have hat : g.ownBlock = some gg ∨ w.heap.size ≤ gg := hg.1.at'.imp id fun e => by rw [e]; exact h1.size
  refine ⟨⟨hown, ?_⟩, ho, hat⟩
  rcases hg.2 with e | ⟨hn, hnil⟩
  · rcases h.2 with ⟨b, c, e1, e2⟩ | ⟨h2, h3⟩
    · rw [e] at e2
      injection e2 with e3 _ e5
      injection e3 with e3
      injection e3 with e3
      subst e3 e5
      exact .inl ⟨_, _, e1, rfl⟩
    · exact .inr ⟨own_only h2 ho fun k hk e4 => h3 k hk e4, fun k hk e4 => h3 k hk (by rw [e]; exact e4)⟩
  · have h2 : OwnB B w x.1 (marks i x.2.length) := by
      rcases h.2 with ⟨b, c, e1, e2⟩ | ⟨h2, _⟩
      · have := h.1
        rw [e2] at this
        rw [e1]
        exact this.pre
      · exact h2
    refine .inr ⟨own_only (own_only h2 h1 fun _ _ e => e) hnil fun _ _ e => e, fun k hk e4 => ?_⟩
    obtain ⟨cs, hb⟩ := h2.lt hk
    have h5 : gg = k := Option.some.inj e4
    have h6 := hb.lt
    have h7 := h1.size
    omega
theorem OwSt.next (h : OwSt B B1 kb vl vw ls lo i gs vg R w) : OwSt B B1 kb vl vw ls lo i gs vg (Next R w.heap.size m) w :=
  ⟨h.blk, h.lists, h.grown, Next.one h.one, fun j x hj hx => ⟨(h.later j x hj hx).1, fun k hk => .inl ⟨by obtain ⟨cs, hb⟩ := (h.later j x hj hx).1.lt hk; exact hb.lt, (h.later j x hj hx).2 k hk⟩⟩,
    fun j x g hj hx hg => ⟨(h.done j x g hj hx hg).1, fun k hk => .inl ⟨by obtain ⟨cs, hb⟩ := (h.done j x g hj hx hg).1.blks hk; exact hb.lt, (h.done j x g hj hx hg).2 k hk⟩⟩, h.ne⟩
theorem OwSt.mono (h : OwSt B B1 kb vl vw ls lo i gs vg R w) (hl : lo ≤ n) : OwSt B B1 kb vl vw ls n i gs vg R w :=
  ⟨h.blk, h.lists, h.grown, h.one, fun j x hj hx => h.later j x (Nat.le_trans hl hj) hx, h.done, h.ne⟩
theorem own_byte_far {t : TypeId} {v : Value} {nn : Nat} {xs : List Value} {B' : Nat} (h : w.ownsRow B' t 1 v nn xs) (ht : t ≠ 5) (hS : ∀ k, S k → k < w.heap.size → ∃ cs, Blk w k 5 cs) : ∀ k, v.ownBlock = some k → ¬ S k := fun k hk hs => by
  obtain ⟨cs, hb⟩ := blk_of_own h hk
  obtain ⟨cs', hb'⟩ := hS k hs hb.lt
  exact ht (blk_type hb hb')
/-- The round's own list is written. -/
theorem OwSt.step (h : OwSt B B1 kb vl vw ls (i + 1) i gs vg R w) (ho : Only S w w') (hS : ∀ k, S k → k < w.heap.size → ∃ cs, Blk w k 5 cs) (hR : ∀ k, S k → R k i) : OwSt B B1 kb vl vw ls (i + 1) i gs vg R w' :=
  ⟨ho.blk h.blk (fun hs => by obtain ⟨cs, hb⟩ := hS kb hs h.blk.lt; exact absurd (blk_type h.blk hb) (by decide)), own_only h.lists ho (own_byte_far h.lists (by decide) hS), own_only h.grown ho (own_byte_far h.grown (by decide) hS), h.one,
    fun j x hj hx => ⟨own_only (h.later j x hj hx).1 ho fun k hk hs => by
      have := h.one k _ _ ((h.later j x hj hx).2 k hk) (hR k hs)
      omega, (h.later j x hj hx).2⟩,
    fun j x g hj hx hg => ⟨(h.done j x g hj hx hg).1.keep ho fun k hk hs => by
      have := h.one k _ _ ((h.done j x g hj hx hg).2 k hk) (hR k hs)
      omega, (h.done j x g hj hx hg).2⟩, h.ne⟩
/-- The list that was grown is put behind the others. -/
theorem OwSt.push (h : OwSt B B1 kb vl vw ls (i + 1) i gs vg R w) (hx : ls[i]? = some x) (hd : Done B w i x g 9) (hr : ∀ k, x.1.ownBlock = some k ∨ g.ownBlock = some k → R k i) (h1 : Only Nil w w1) {gg cap : Nat} (hg : Grew w1 w2 B1 26 vg i 1 gs [g] gg cap) :
    OwSt B B1 kb vl vw ls (i + 1) (i + 1) (gs ++ [g]) (.slice (some ⟨gg, 0, none⟩) (i + 1) cap) R w2 ∧ Only (fun k => vg.ownBlock = some k) w w2 := by
  have hO : Only (fun k => vg.ownBlock = some k) w1 w2 := Only.of_grown hg.grown fun k hk => .inl hk
  have ho := (h1.mono (T := fun k => vg.ownBlock = some k) fun _ _ e => e.elim).then hO
  have hbk : ∀ k, (∃ cs, Blk w k 5 cs) → ¬ vg.ownBlock = some k := fun k hb hk => by
    obtain ⟨cs, hb⟩ := hb
    obtain ⟨cs', hb'⟩ := blk_of_own h.grown hk
    exact absurd (blk_type hb hb') (by decide)
  have hlen : gs.length = i := by
    have := h.grown.1
    omega
  have hl1 := own_only h.lists h1 fun _ _ e => e
  refine ⟨⟨ho.blk h.blk (ownN_far h.grown h.blk (by decide)), own_only h.lists ho fun k hk hs => h.ne k hs hk, hg.own, h.one, fun j y hj hy => ⟨own_only (h.later j y hj hy).1 ho fun k hk => hbk k ((h.later j y hj hy).1.lt hk), (h.later j y hj hy).2⟩, fun j y gv hj hy hgv => ?_, fun k hk => ?_⟩, ho⟩
  · by_cases hji : j < i
    · rw [List.getElem?_append_left (by omega)] at hgv
      exact ⟨(h.done j y gv hji hy hgv).1.keep ho fun k hk => hbk k ((h.done j y gv hji hy hgv).1.blks hk), (h.done j y gv hji hy hgv).2⟩
    · obtain rfl : j = i := by omega
      rw [List.getElem?_append_right (by omega), hlen, Nat.sub_self] at hgv
      obtain rfl : g = gv := by simpa using hgv
      obtain rfl : x = y := by rw [hx] at hy; exact Option.some.inj hy
      exact ⟨hd.keep ho fun k hk => hbk k (hd.blks hk), hr⟩
  · obtain rfl : gg = k := Option.some.inj hk
    rcases hg.at' with h2 | h2
    · exact h.ne gg h2
    · intro h3
      obtain ⟨cs, hb⟩ := blk_of_own hl1 h3
      have := hb.lt
      omega
end


def ls0 : Ls := (.slice none 0 0, [])
section
variable {B : Nat} {w w' W : World} {F : Nat → Prop} {kb : Nat} {ls : List Ls} {vl vw : Value}
theorem BookAt.elem (h : BookAt B w F kb vl vw ls) {k : Nat} (hk : k < ls.length) (ho : Only Nil w W) : ∃ g c g' c' A cx, vl = .slice (some ⟨g, 0, none⟩) ls.length c ∧ vw = .slice (some ⟨g', 0, none⟩) ls.length c' ∧ W.cell? ⟨g, k, none⟩ = some (.slice A (ls.getD k ls0).2.length cx) ∧ W.cell? ⟨g', k, none⟩ = some (.string (str (ls.getD k ls0).2)) ∧ (ls.getD k ls0).1 = .slice A (ls.getD k ls0).2.length cx ∧ RB W (.slice A (ls.getD k ls0).2.length cx) (ls.getD k ls0).2 := by
  have h' := h.only ho fun _ _ e => e
  obtain ⟨g, c, e1, _, _, _, hc⟩ := own_form h'.lists (by omega)
  obtain ⟨g', c', e2, _, _, _, hc'⟩ := own_form h'.was (by omega)
  have hx : ls.getD k ls0 ∈ ls := by simp [List.getD, hk]
  have hx2 := h'.each _ hx
  obtain ⟨A, cx, e3⟩ := own_slice1 hx2
  have q0 := hc k hk
  have q1 := hc' k hk
  refine ⟨g, c, g', c', A, cx, e1, e2, ?_, ?_, e3, e3 ▸ hx2.reads'⟩
  · rw [q0, ← e3]
    simp [List.getD, hk]
  · rw [q1]
    simp [strs, List.getD, hk]
def Mine (ls : List Ls) (k j : Nat) : Prop := ∃ x, ls[j]? = some x ∧ x.1.ownBlock = some k
theorem mine_one (h : ls.Pairwise FarL) : ∀ k j j', Mine ls k j → Mine ls k j' → j = j' := by
  intro k j j' ⟨x, hx, h1⟩ ⟨y, hy, h2⟩
  obtain ⟨hj, rfl⟩ := List.getElem?_eq_some_iff.1 hx
  obtain ⟨hj', rfl⟩ := List.getElem?_eq_some_iff.1 hy
  rcases Nat.lt_trichotomy j j' with h3 | h3 | h3
  · exact absurd h2 (List.pairwise_iff_getElem.1 h j j' hj hj' h3 k h1)
  · exact h3
  · exact absurd h1 (List.pairwise_iff_getElem.1 h j' j hj' hj h3 k h2)
theorem BookAt.foot' (h : BookAt B w F kb vl vw ls) {k j : Nat} (hm : Mine ls k j) : F k := by
  obtain ⟨x, hx, hk⟩ := hm
  exact h.foot.2.2.2 x (List.mem_of_getElem? hx) k hk
theorem OwSt.first {n : Nat} {Al Aw : Option Addr} {cl cw : Nat} (h : BookAt B w F kb (.slice Al ls.length cl) (.slice Aw ls.length cw) ls) (hn : ls.length = n) (ho : Only Nil w W) : OwSt B w.heap.size kb (.slice Al n cl) (.slice Aw n cw) ls 0 0 [] (.slice none 0 0) (Mine ls) W := by
  rw [← hn]
  have h' := h.only ho fun _ _ e => e
  exact ⟨h'.blk, h'.lists, ⟨rfl, .inl ⟨rfl, rfl⟩⟩, mine_one h.far, fun j x _ hx => ⟨h'.each x (List.mem_of_getElem? hx), fun k hk => ⟨x, hx, hk⟩⟩, fun j x g hj _ _ => absurd hj (Nat.not_lt_zero _), fun k hk => by cases hk⟩
theorem OwSt.elem {B1 n i : Nat} {Al Aw : Option Addr} {cl cw : Nat} {gs : List Value} {vg : Value} {R : Nat → Nat → Prop} (h : OwSt B B1 kb (.slice Al n cl) (.slice Aw n cw) ls i i gs vg R W) (hn : ls.length = n) (hi : i < n) :
    ∃ g c A cx bs, Value.slice Al n cl = .slice (some ⟨g, 0, none⟩) n c ∧ W.cell? ⟨g, i, none⟩ = some (.slice A bs.length cx) ∧ ls[i]? = some (.slice A bs.length cx, bs) ∧ OwnB B W (.slice A bs.length cx) bs ∧ ∀ k, (Value.slice A bs.length cx).ownBlock = some k → R k i := by
  obtain ⟨g, c, e1, _, _, _, hc⟩ := own_form h.lists (by omega)
  obtain ⟨x, hx⟩ : ∃ x, ls[i]? = some x := ⟨_, List.getElem?_eq_getElem (by omega)⟩
  obtain ⟨v, bs⟩ := x
  obtain ⟨hv, hr⟩ := h.later i _ (Nat.le_refl _) hx
  obtain ⟨A, cx, e3⟩ := own_slice1 hv
  have e4 : v = .slice A bs.length cx := e3
  subst e4
  refine ⟨g, c, A, cx, bs, by rw [e1, hn], ?_, hx, hv, hr⟩
  have q0 := hc i (by omega)
  rw [q0]
  simp [List.getD, hx]
theorem OwnB.put {A : Option Addr} {m cx : Nat} {l : List UInt8} (h : OwnB B W (.slice A m cx) l) {j : Nat} (hl : l.length = m) (hj : j < m) (y : UInt8) :
    ∃ b, A = some ⟨b, 0, none⟩ ∧ W.cell? ⟨b, j, none⟩ = some (.int .u8 (by8 (l.getD j 0))) ∧ W.frozen? ⟨b, j, none⟩ = false ∧ OwnB B (W.setCell ⟨b, j, none⟩ (.int .u8 (by8 y))) (.slice A m cx) (l.set j y) := by
  have h0 : W.ownsRow B 5 1 (.slice A m cx) l.length (BC l) := h
  obtain ⟨g, cap, e1, _, _, _, hc⟩ := own_form h0 (by omega)
  injection e1 with e1 _ e3
  subst e1 e3
  obtain ⟨cs, hb⟩ := blk_of_own h0 (k := g) rfl
  have hq := hc j (by omega)
  refine ⟨g, rfl, ?_, hb.free j, ?_⟩
  · rw [hq]
    simp [BC, List.getD, show j < l.length by omega]
  · unfold OwnB
    rw [List.length_set, ← BC_set]
    refine ⟨by rw [List.length_set]; exact h0.1, ?_⟩
    rcases h0.2 with ⟨h1, _⟩ | ⟨k, c, cur, hv, hB, hg, hc, hm, hs, ht⟩
    · cases h1
    · injection hv with e1 e2 e3
      injection e1 with e1
      injection e1 with e1
      subst e1 e3
      have hb : Blk W g 5 cur.toList := by unfold Blk; simpa using hg
      have hb2 := hb.set j (.int .u8 (by8 y))
      refine .inr ⟨g, cx, (cur.toList.set j (.int .u8 (by8 y))).toArray, by rw [← e2], hB, hb2, hc, hm, by simpa using hs, ?_⟩
      rw [List.take_set, ht]
theorem OwSt.grew {B1 i m q gg cap : Nat} {gs : List Value} {vg g v : Value} {bs : List UInt8} {R : Nat → Nat → Prop} {w1 w2 : World} (h : OwSt B B1 kb vl vw ls (i + 1) i gs vg R W) (hd : Done B W i (v, bs) g q) (hm : bs.length = m) (hr : ∀ k, g.ownBlock = some k → R k i) (h1 : Only Nil W w1)
    (hg : Grew2 w1 w2 B 5 g (m + q) 1 (BC (marks i (m + q))) [.int .u8 (by8 (mk8 i (m + q)))] gg cap) :
    OwSt B B1 kb vl vw ls (i + 1) i gs vg R w2 ∧ Done B w2 i (v, bs) (.slice (some ⟨gg, 0, none⟩) (m + q + 1) cap) (q + 1) ∧ Only (fun k => g.ownBlock = some k) W w2 ∧ (g.ownBlock = some gg ∨ W.heap.size ≤ gg) := by
  subst hm
  obtain ⟨a, b, c⟩ := Done.grew (x := (v, bs)) hd h1 hg
  exact ⟨h.step b (fun k hk _ => hd.blks (.inr hk)) hr, a, b, c⟩
theorem OwSt.nil {B1 lo i : Nat} {gs : List Value} {vg : Value} {R : Nat → Nat → Prop} {w1 w2 : World} (h : OwSt B B1 kb vl vw ls lo i gs vg R w1) (ho : Only Nil w1 w2) : OwSt B B1 kb vl vw ls lo i gs vg R w2 :=
  ⟨ho.blk h.blk id, own_only h.lists ho fun _ _ e => e, own_only h.grown ho fun _ _ e => e, h.one, fun j x hj hx => ⟨own_only (h.later j x hj hx).1 ho fun _ _ e => e, (h.later j x hj hx).2⟩,
    fun j x g hj hx hg => ⟨(h.done j x g hj hx hg).1.keep ho fun _ _ e => e, (h.done j x g hj hx hg).2⟩, h.ne⟩
theorem OwSt.read {B1 n r : Nat} {Al A4 : Option Addr} {cl c4 : Nat} {gs : List Value} {R : Nat → Nat → Prop} (h : OwSt B B1 kb (.slice Al n cl) vw ls n n gs (.slice A4 n c4) R W) (hn : ls.length = n) (hr : r < n) :
    ∃ g c ga ca A cx bs bg cg, Value.slice Al n cl = .slice (some ⟨g, 0, none⟩) n c ∧ Value.slice A4 n c4 = .slice (some ⟨ga, 0, none⟩) n ca ∧ ls[r]? = some (.slice A bs.length cx, bs) ∧ W.cell? ⟨g, r, none⟩ = some (.slice A bs.length cx) ∧ W.cell? ⟨ga, r, none⟩ = some (.slice (some ⟨bg, 0, none⟩) (bs.length + 9) cg) ∧
      (∀ p, p < bs.length + 9 → W.cell? ⟨bg, p, none⟩ = some (.int .u8 (by8 (mk8 r p)))) ∧ ∀ p, p < bs.length → ∃ b, A = some ⟨b, 0, none⟩ ∧ W.cell? ⟨b, p, none⟩ = some (.int .u8 (by8 (mk8 r p))) := by
  obtain ⟨g, c, e1, _, _, _, hc⟩ := own_form h.lists (by omega)
  obtain ⟨ga, ca, e2, _, _, _, hca⟩ := own_form h.grown (by omega)
  have hgl : gs.length = n := by
    have := h.grown.1
    omega
  obtain ⟨x, hx⟩ : ∃ x, ls[r]? = some x := ⟨_, List.getElem?_eq_getElem (by omega)⟩
  obtain ⟨y, hy⟩ : ∃ y, gs[r]? = some y := ⟨_, List.getElem?_eq_getElem (by omega)⟩
  obtain ⟨v, bs⟩ := x
  obtain ⟨hD, _⟩ := h.done r _ y hr hx hy
  have hcell : ∀ {v : Value} {k : Nat}, OwnB B W v (marks r k) → 0 < k → ∃ b c, v = .slice (some ⟨b, 0, none⟩) k c ∧ ∀ p, p < k → W.cell? ⟨b, p, none⟩ = some (.int .u8 (by8 (mk8 r p))) := by
    intro v k hv h0
    unfold OwnB at hv
    rw [marks_length] at hv
    obtain ⟨b, c, e, _, _, _, hc⟩ := own_form hv h0
    refine ⟨b, c, e, fun p hp => ?_⟩
    rw [hc p hp, List.getD, BC_get _ _ (by rw [marks_length]; exact hp), marks_get _ _ _ hp]
    rfl
  obtain ⟨bg, cg, e3, hg⟩ := hcell hD.1 (by omega)
  have hlx : ∃ A cx, v = .slice A bs.length cx ∧ ∀ p, p < bs.length → ∃ b, A = some ⟨b, 0, none⟩ ∧ W.cell? ⟨b, p, none⟩ = some (.int .u8 (by8 (mk8 r p))) := by
    rcases hD.2 with ⟨b, c, e4, e5⟩ | ⟨h2, _⟩
    · refine ⟨_, _, e4, fun p hp => ⟨b, rfl, ?_⟩⟩
      rw [e3] at e5
      injection e5 with e5 _ _
      injection e5 with e5
      injection e5 with e5
      rw [← e5]
      exact hg p (Nat.lt_of_lt_of_le hp (Nat.le_add_right _ _))
    · by_cases h0 : 0 < bs.length
      · obtain ⟨b, c, e4, h4⟩ := hcell h2 h0
        exact ⟨_, _, e4, fun p hp => ⟨b, rfl, h4 p hp⟩⟩
      · obtain ⟨A, cx, e4⟩ := own_slice1 h2
        rw [marks_length] at e4
        exact ⟨A, cx, e4, fun p hp => absurd hp (by omega)⟩
  obtain ⟨A, cx, e4, hl⟩ := hlx
  subst e4 e3
  refine ⟨g, c, ga, ca, A, cx, bs, bg, cg, by rw [e1, hn], e2, hx, ?_, ?_, hg, hl⟩
  · rw [hc r (by omega)]
    simp [List.getD, hx]
  · rw [hca r hr]
    simp [List.getD, hy]
theorem cell_nil {k p : Nat} {v : Value} {w1 w2 : World} (ho : Only Nil w1 w2) (h : w1.cell? ⟨k, p, none⟩ = some v) : w2.cell? ⟨k, p, none⟩ = some v := by
  by_cases hk : k < w1.heap.size
  · rw [World.cell?_of_block (w := w1) (ho.block k hk id)]
    exact h
  · have : w1.heap[k]? = none := by simp; omega
    simp [World.cell?, this] at h
set_option maxHeartbeats 1600000 in
theorem owned_any (h : IsBook B w F kb ls) (hn : ls.length ≤ 100000000000) (hb : ∀ x ∈ ls, x.2.length ≤ 100000000000) :
    Calls Tryd.prog 16 #[.pointer (some ⟨kb, 0, none⟩)] w fun e w' => e = .returned (.bool true) ∧ Only F w w' := by
  obtain ⟨vl, vw, hA⟩ := h.at'
  obtain ⟨Al, cl, rfl⟩ := own_slice1 hA.lists
  obtain ⟨Aw, cw, rfl⟩ := own_slice1 hA.was
  obtain ⟨n, hlen⟩ : ∃ n, ls.length = n := ⟨_, rfl⟩
  have HC := Lib.hid (show ∀ W, Only Nil w W → Blk W kb 39 [.slice Al n cl, .slice Aw n cw] from fun W ho => by rw [← hlen]; exact ho.blk hA.blk id)
  have HH := Lib.hid h
  have HA := Lib.hid hA
  have HB := Lib.hid hb
  have HN := Lib.hid hlen
  rw [hlen] at hn
  clear h hA hb hlen
  go_enter Tryd.func16, Tryd.ntmps16
  go_wp2
  go_loopw [3] (fun i wr => ∃ k : Nat, k ≤ n ∧ i = .int .i64 k ∧ Only Nil w wr) (fun i _ => n - (intOf i).toNat)
  case atStart => exact ⟨0, Nat.zero_le _, rfl, Only.refl _ _⟩
  case round =>
    obtain ⟨k, hk, rfl, ho⟩ := hrel
    have HO := Lib.hid ho
    have c0 : wr.cell? ⟨kb, 0, none⟩ = some (.slice Al n cl) := (HC.out wr ho).cell 0
    have c1 : wr.cell? ⟨kb, 1, none⟩ = some (.slice Aw n cw) := (HC.out wr ho).cell 1
    by_cases hlt : k < n
    · obtain ⟨g, c, g', c', A, cx, e1, e2, q0, q1, _, hr⟩ := HA.out.elem (W := wr) (k := k) (by rw [HN.out]; exact hlt) ho
      injection e1 with e1 _ e1c
      injection e2 with e2 _ e2c
      subst e1 e1c e2 e2c
      have s0 : ∀ j, (convert 26 9 (.slice A (ls.getD k ls0).2.length cx)).run Tryd.prog (wr.drewN j) = .ok (.string (str (ls.getD k ls0).2)) (wr.drewN j) := fun j => str_of (P := Tryd.prog) (src := 26) (e := 5) (dst := 9) Tryd.underlying26 Tryd.underlying5 Tryd.underlying9 (hr.drewN j)
      obtain ⟨x, hx⟩ : ∃ x, (ls.getD k ls0).2 = x := ⟨_, rfl⟩
      rw [hx] at q0 q1 s0
      have g1 : (k : Int) < (n : Int) := by omega
      have hs2 : ((str x).toList == (str x).toList) = true := by simp
      clear ho hr hx
      go_upto_region 4 with fail
      go_quiet (fail)
      go_wp2
      go_roundw
      case rel => exact ⟨k + 1, by omega, by go_num, HO.out.drewN nq⟩
      case measure => simp only [intOf]; omega
    · have hkn : k = n := by omega
      have g1 : ¬ (k : Int) < (n : Int) := by omega
      have HS := Lib.hid (OwSt.first HA.out HN.out ho)
      clear ho c1
      go_wp2
      go_loopw [4, 5] (fun vg iv W => ∃ (i : Nat) (gs : List Value) (R : Nat → Nat → Prop), i ≤ n ∧ iv = .int .i64 i ∧ OwSt B w.heap.size kb (.slice Al n cl) (.slice Aw n cw) ls i i gs vg R W ∧ Only F w W ∧ ∀ k j, R k j → F k ∨ w.heap.size ≤ k) (fun _ iv _ => n - (intOf iv).toNat)
      case atStart => exact ⟨0, [], _, Nat.zero_le _, rfl, HS.out, HO.out.mono fun _ _ e => e.elim, fun k j hR => .inl (HA.out.foot' hR)⟩
      case round =>
        obtain ⟨i, gs, R, hi, rfl, hS, hO, hR⟩ := hrel
        have c0 : wr.cell? ⟨kb, 0, none⟩ = some (.slice Al n cl) := hS.blk.cell 0
        obtain ⟨A4, c4, hu4⟩ := own_slice1 hS.grown
        subst hu4
        have HO2 := Lib.hid hO
        have HR := Lib.hid hR
        by_cases hlt2 : i < n
        · obtain ⟨g, c, A, cx, bs, e1, q0, hx, hv, hvr⟩ := hS.elem HN.out hlt2
          injection e1 with e1 _ e1c
          subst e1 e1c
          have hm2 : bs.length ≤ 100000000000 := HB.out _ (List.mem_of_getElem? hx)
          have HV := Lib.hid (show OwnB B wr (.slice A bs.length cx) (marks i 0 ++ bs.drop 0) from hv)
          obtain ⟨m, hm⟩ : ∃ m, bs.length = m := ⟨_, rfl⟩
          have g1' : (i : Int) < (n : Int) := by omega
          have HM := Lib.hid hm
          have HX := Lib.hid hx
          have HS2 := Lib.hid ((hS.mono (Nat.le_succ i)).next (m := i))
          have HVR := Lib.hid (show ∀ k, (Value.slice A bs.length cx).ownBlock = some k → Next R wr.heap.size i k i from fun k hk => .inl ⟨by obtain ⟨cs, hb⟩ := hv.lt hk; exact hb.lt, hvr k hk⟩)
          have HR2 := Lib.hid (show ∀ k j, Next R wr.heap.size i k j → F k ∨ w.heap.size ≤ k from fun k j hk => hk.elim (fun h => hR k j h.2) fun h => .inr (Nat.le_trans hO.size h.1))
          rw [hm] at q0 hm2 HV HVR HX
          clear hS hO hR hm hx hv hvr HS
          have HNEW := Lib.hid (show ∀ k, wr.heap.size ≤ k → Next R wr.heap.size i k i from fun k hk => .inr ⟨hk, rfl⟩)
          obtain ⟨R2, hR2⟩ : ∃ x, Next R wr.heap.size i = x := ⟨_, rfl⟩
          rw [hR2] at HVR HR2 HS2 HNEW
          obtain ⟨z1, hz1⟩ : ∃ x, wr.heap.size = x := ⟨_, rfl⟩
          rw [hz1] at HNEW
          clear hR2
          go_wp2
          go_loopw [7] (fun nv W => ∃ j : Nat, j ≤ m ∧ nv = .int .i64 j ∧ OwSt B w.heap.size kb (.slice (some ⟨g, 0, none⟩) n cl) (.slice Aw n cw) ls (i + 1) i gs (.slice A4 i c4) R2 W ∧ OwnB B W (.slice A m cx) (marks i j ++ bs.drop j) ∧ Only F w W ∧ z1 ≤ W.heap.size) (fun nv _ => m - (intOf nv).toNat)
          case atStart => exact ⟨0, Nat.zero_le _, rfl, HS2.out, HV.out, HO2.out, Nat.le_of_eq hz1.symm⟩
          case round =>
            obtain ⟨j, hj, rfl, hS, hv, hO, hsz⟩ := hrel
            by_cases hjm : j < m
            · have g2 : (j : Int) < (m : Int) := by omega
              obtain ⟨b, rfl, q1, q2, hput⟩ := hv.put (j := j) (by rw [List.length_append, marks_length, List.length_drop, HM.out]; omega) (by omega) (mk8 i j)
              have HP := Lib.hid (OwSt.step hS ((Only.refl (One b) wr).setCell (p := ⟨b, j, none⟩) (.inl (One.self b)) (.int .u8 (by8 (mk8 i j)))) (fun k hk _ => by rw [show k = b from hk]; exact hv.lt rfl) (fun k hk => by rw [show k = b from hk]; exact HVR.out b rfl))
              have HPV := Lib.hid (show OwnB B _ _ _ from (marks_put i j bs (by rw [HM.out]; exact hjm)) ▸ hput)
              clear hS hv hput
              have hmk := mark_any i j wr (by omega) (by omega)
              go_wp2_with (go_at_call 34; refine hmk.mono ?_; rintro e w3 ⟨rfl, rfl⟩)
              go_roundw
              case rel => exact ⟨j + 1, by omega, by go_num, HP.out, HPV.out, hO.setCell (p := ⟨b, j, none⟩) (HR2.out b i (HVR.out b rfl)) _, Nat.le_trans hsz ((Only.refl (One b) _).setCell (p := ⟨b, j, none⟩) (.inl (One.self b)) _).size⟩
              case measure => simp only [intOf]; omega
            · have hjm2 : j = m := by omega
              subst hjm2
              have g2 : ¬ (j : Int) < (j : Int) := by omega
              have HS3 := Lib.hid hS
              have HD3 := Lib.hid (show Done B wr i (.slice A j cx, bs) (.slice A j cx) 0 from Done.zero (x := (.slice A j cx, bs)) (by
                have e : marks i j ++ bs.drop j = marks i bs.length := by
                  rw [← HM.out]
                  exact marks_full i bs
                exact e ▸ hv))
              have HO3 := Lib.hid hO
              clear hS hv hO
              go_wp2
              go_loopw [8, 9] (fun gv nv W => ∃ (q : Nat) (Ag : Option Addr) (cg : Nat), q ≤ 9 ∧ nv = .int .i64 q ∧ gv = .slice Ag (j + q) cg ∧ OwSt B w.heap.size kb (.slice (some ⟨g, 0, none⟩) n cl) (.slice Aw n cw) ls (i + 1) i gs (.slice A4 i c4) R2 W ∧ Done B W i (.slice A j cx, bs) gv q ∧ Only F w W ∧ (∀ k, gv.ownBlock = some k → R2 k i) ∧ z1 ≤ W.heap.size) (fun _ nv _ => 9 - (intOf nv).toNat)
              case atStart => exact ⟨0, A, cx, by omega, rfl, rfl, HS3.out, HD3.out, HO3.out, HVR.out, hsz⟩
              case round =>
                obtain ⟨q, Ag, cg, hq, rfl, rfl, hS, hD, hO, hgr, hsz⟩ := hrel
                by_cases hq9 : q < 9
                · have g3 : (q : Int) < 9 := by omega
                  have hmk : Calls Tryd.prog 34 #[.int .i64 (i : Int), .int .i64 ((j : Int) + (q : Int))] wr fun e w' => e = .returned (.int .u8 (by8 (mk8 i (j + q)))) ∧ w' = wr := by
                    have := mark_any i (j + q) wr (by omega) (by omega)
                    rwa [Int.natCast_add] at this
                  have g4 : (j : Int) + (q : Int) ≤ 100000000010 := by omega
                  obtain ⟨ib, hib, hbz, hbs, hbb⟩ := info_parts info_byte
                  have hrow : wr.ownsRow B 5 1 (.slice Ag (j + q) cg) (j + q) (BC (marks i (j + q))) := by
                    have h8 := hD.1
                    unfold OwnB at h8
                    rw [marks_length] at h8
                    rw [← HM.out]
                    rw [← HM.out] at h8
                    exact h8
                  have HSX := Lib.hid hS
                  have HDX := Lib.hid hD
                  have HOX := Lib.hid hO
                  have HGX := Lib.hid hgr
                  have hBw : B ≤ wr.heap.size := Nat.le_trans HH.out.base hO.size
                  clear hS hD hO hgr
                  go_wp2_with (first
                    | (go_at_call 34; refine hmk.mono ?_; rintro e w3 ⟨rfl, rfl⟩)
                    | ((with_reducible show wpList _ _ _ (Oper.mk _ (.call { callee := .builtin .append, args := _, argTypes := _ }) _ _ _ _ :: _) _ _); refine wpList_append_row2 rfl (.tmp 79) (.tmp 81) 26 rfl B 5 ib _ 1 Tryd.underlying26 hib hbz hbs hbb rfl (.slice Ag (j + q) cg) (j + q) (BC (marks i (j + q))) rfl (own_only hrow ((Only.refl Nil _).alloc _) fun _ _ e => e) _ 1 1 [.int .u8 (by8 (mk8 i (j + q)))] rfl rfl (news_block (Blk.new _ _ _)) (by intro u hu; rw [List.mem_singleton.1 hu]; rfl) (by omega) (by unfold maxLen; omega) (by omega) (by simp; omega) ?_; intro g7 cap7 w7 hg7; have HGR := Lib.hid hg7; clear hg7))
                  have HE := Lib.hid (OwSt.grew HSX.out HDX.out HM.out HGX.out ((Only.refl Nil _).alloc _) HGR.out)
                  go_roundw
                  case rel => exact ⟨q + 1, some ⟨g7, 0, none⟩, cap7, by omega, by go_num, rfl, HE.out.1, HE.out.2.1, HOX.out.trans HE.out.2.2.1 fun k hk => HR2.out k i (HGX.out k hk), fun k hk => by
                    obtain rfl : g7 = k := Option.some.inj hk
                    rcases HE.out.2.2.2 with h | h
                    · exact HGX.out _ h
                    · exact HNEW.out _ (Nat.le_trans hsz h), Nat.le_trans hsz HE.out.2.2.1.size⟩
                  case measure => simp only [intOf]; omega
                · have hq9' : q = 9 := by omega
                  subst hq9'
                  have HSX := Lib.hid hS
                  have HDX := Lib.hid hD
                  have HOX := Lib.hid hO
                  have HGX := Lib.hid hgr
                  obtain ⟨ir, hir, hrz, hrs, hrb⟩ := info_parts info_rowB
                  have hBw : w.heap.size ≤ wr.heap.size := hO.size
                  clear hS hD hO hgr
                  go_wp2_with (((with_reducible show wpList _ _ _ (Oper.mk _ (.call { callee := .builtin .append, args := _, argTypes := _ }) _ _ _ _ :: _) _ _); refine wpList_append_row rfl (.tmp 83) (.tmp 85) 36 rfl w.heap.size 26 ir _ 24 Tryd.underlying36 hir hrz hrs hrb rfl (.slice A4 i c4) i gs rfl (own_only HSX.out.grown ((Only.refl Nil _).alloc _) fun _ _ e => e) _ 1 1 [.slice Ag (j + 9) cg] rfl rfl (news_block (Blk.new _ _ _)) (by intro u hu; rw [List.mem_singleton.1 hu]; rfl) (by omega) (by unfold maxLen; omega) (by omega) (by simp; omega) ?_; intro g8 cap8 w8 hg8; have HGR := Lib.hid hg8; clear hg8))
                  have HE := Lib.hid (OwSt.push HSX.out HX.out (g := .slice Ag (j + 9) cg) (by
                    have := HDX.out
                    exact this) (fun k hk => hk.elim (fun h => HVR.out k h) fun h => HGX.out k h) ((Only.refl Nil _).alloc _) HGR.out)
                  go_roundw
                  case rel => exact ⟨i + 1, gs ++ [.slice Ag (j + 9) cg], R2, by omega, by go_num, HE.out.1, HOX.out.trans HE.out.2 fun k hk => .inr (own_block HSX.out.grown k hk).1, HR2.out⟩
                  case measure => simp only [intOf]; omega
        · have hin : i = n := by omega
          subst hin
          have g2 : ¬ (i : Int) < (i : Int) := by omega
          have HS3 := Lib.hid hS
          clear hS hO hR
          go_wp2
          go_loopw [11] (fun rv W => ∃ r : Nat, r ≤ i ∧ rv = .int .i64 r ∧ Only Nil wr W) (fun rv _ => i - (intOf rv).toNat)
          case atStart => exact ⟨0, Nat.zero_le _, rfl, Only.refl _ _⟩
          case round =>
            obtain ⟨r, hr, rfl, ho5⟩ := hrel
            have hS5 := HS3.out.nil ho5
            have c0 : wr.cell? ⟨kb, 0, none⟩ = some (.slice Al i cl) := hS5.blk.cell 0
            have HO5 := Lib.hid ho5
            by_cases hri : r < i
            · obtain ⟨g, c, ga, ca, A, cx, bs, bg, cg, e1, e2, hx, q0, q1, hg, hl⟩ := hS5.read HN.out hri
              injection e1 with e1 _ e1c
              injection e2 with e2 _ e2c
              subst e1 e1c e2 e2c
              have hm2 : bs.length ≤ 100000000000 := HB.out (.slice A bs.length cx, bs) (List.mem_of_getElem? hx)
              obtain ⟨m, hm⟩ : ∃ m, bs.length = m := ⟨_, rfl⟩
              rw [hm] at hx q0 q1 hg hl hm2
              have HG5 := Lib.hid hg
              have HL5 := Lib.hid hl
              have g3 : (r : Int) < (i : Int) := by omega
              clear ho5 hS5 hx hg hl
              go_wp2
              go_loopw [13] (fun pv W => ∃ p : Nat, p ≤ m + 9 ∧ pv = .int .i64 p ∧ Only Nil wr W) (fun pv _ => m + 9 - (intOf pv).toNat)
              case atStart => exact ⟨0, Nat.zero_le _, rfl, Only.refl _ _⟩
              case round =>
                obtain ⟨p, hp, rfl, ho6⟩ := hrel
                have q1' := cell_nil ho6 q1
                have HO6 := Lib.hid ho6
                by_cases hpm : p < m + 9
                · have g4 : (p : Int) < (m : Int) + 9 := by omega
                  have q2 := cell_nil ho6 (HG5.out p hpm)
                  have hmk := mark_any r p wr (by omega) (by omega)
                  by_cases hpl : p < m
                  · obtain ⟨b, rfl, q3⟩ := HL5.out p hpl
                    have q3' := cell_nil ho6 q3
                    have g5 : (p : Int) < (m : Int) := by omega
                    clear ho6 q3
                    go_wp2_with (go_at_call 34; refine hmk.mono ?_; rintro e w3 ⟨rfl, rfl⟩)
                    go_roundw
                    case rel => exact ⟨p + 1, by omega, by go_num, HO6.out⟩
                    case measure => simp only [intOf]; omega
                  · have g5 : ¬ (p : Int) < (m : Int) := by omega
                    clear ho6
                    go_wp2_with (go_at_call 34; refine hmk.mono ?_; rintro e w3 ⟨rfl, rfl⟩)
                    go_roundw
                    case rel => exact ⟨p + 1, by omega, by go_num, HO6.out⟩
                    case measure => simp only [intOf]; omega
                · have hpm2 : p = m + 9 := by omega
                  have g4 : ¬ (p : Int) < (m : Int) + 9 := by omega
                  clear ho6
                  go_wp2
                  go_roundw
                  case rel => exact ⟨r + 1, by omega, by go_num, HO5.out.trans HO6.out fun _ h => h.elim⟩
                  case measure => simp only [intOf]; omega
            · have hri2 : r = i := by omega
              subst hri2
              clear ho5 hS5
              go_wp2
              go_ret
              exact ⟨rfl, HO2.out.trans HO5.out fun _ h => h.elim⟩
end
end Go.Proofs.YthkongkbefpilaaDoor
