/-
  The walk of Take.
-/
import Derived.Test.YtkkjnembjlgiaaaBk
namespace Go.Proofs.Ytkkjnembjlgiaaa
set_option maxRecDepth 100000
open Go.RowKit

theorem OwnB.reads' {B : Nat} {w : World} {v : Value} {bs : List UInt8} (h : OwnB B w v bs) : RB w v bs := by
  rcases h.2 with ⟨e1, h0⟩ | ⟨g, cap, cur, e1, hBg, hcur, hnc, hcm, hcs, htk⟩
  · obtain hb : bs = [] := List.eq_nil_of_length_eq_zero h0
    rw [e1, hb]
    exact RB.nil _ _ _
  · rw [e1]
    refine ⟨_, cap, rfl, hnc, fun _ => ⟨g, 0, rfl, fun i hi => ?_⟩⟩
    have h2 := h
    unfold OwnB at h2
    rw [e1] at h2
    have := World.ownsRow.cells h2 (g := g) rfl i _ (BC_get _ i hi)
    rwa [Addr.add_mid] at this
section
variable {B : Nat} {w w' w1 w2 : World} {F S : Nat → Prop} {kb : Nat} {ls : List Ls}
theorem BookAt.took {w8 : World} {vl vw v : Value} {bs : List UInt8} {g7 g9 c7 c9 : Nat} (hA : BookAt B w F kb vl vw ls) (hI : IsBook B w F kb ls) (hfar : ∀ k, v.ownBlock = some k → ¬ F k)
    (hl8 : w8.ownsRow B 39 1 (.slice (some ⟨g7, 0, none⟩) (ls.length + 1) c7) (ls.length + 1) (ls.map (·.1) ++ [v])) (hx8 : OwnB B w8 v bs) (he8 : ∀ x ∈ ls, OwnB B w8 x.1 x.2)
    (hat : vl.ownBlock = some g7 ∨ w.heap.size ≤ g7) (ho8 : Only F w w8)
    (hb : Blk w' kb 34 [.slice (some ⟨g7, 0, none⟩) (ls.length + 1) c7, .slice (some ⟨g9, 0, none⟩) (ls.length + 1) c9])
    (hs : w'.ownsRow B 9 1 (.slice (some ⟨g9, 0, none⟩) (ls.length + 1) c9) (ls.length + 1) (strs ls ++ [.string (str bs)])) (ho : Only F w w')
    (hk : ∀ {t : TypeId} {n' : Nat} {v : Value} {ys : List Value} {B' : Nat}, w8.ownsRow B' t 1 v n' ys → t ≠ 9 → t ≠ 34 → w'.ownsRow B' t 1 v n' ys)
    (hat9 : vw.ownBlock = some g9 ∨ w8.heap.size ≤ g9) :
    Only F w w' ∧ ∃ F', IsBook B w' F' kb (ls ++ [(v, bs)]) ∧ ∀ k, F' k → F k ∨ v.ownBlock = some k ∨ w.heap.size ≤ k := by
  have hl' := hk hl8 (by decide) (by decide)
  have hx' : OwnB B w' v bs := hk hx8 (by decide) (by decide)
  have hlen : (ls ++ [(v, bs)]).length = ls.length + 1 := by simp
  refine ⟨ho, fun k => F k ∨ v.ownBlock = some k ∨ w.heap.size ≤ k ∧ k < w'.heap.size, ⟨⟨_, _, ⟨hb, ?_, ?_, fun x hx => ?_, ?_, .inl hA.foot.1, fun k hk => ?_, fun k hk => ?_, fun x hx k hk => ?_⟩⟩, fun k hk => ?_, Nat.le_trans hI.base ho.size⟩, fun k hk => hk.imp id fun h => h.imp id fun h => h.1⟩
  · rw [hlen, List.map_append]
    exact hl'
  · rw [hlen, strs, List.map_append]
    exact hs
  · rcases List.mem_append.1 hx with h | h
    · exact hk (he8 x h) (by decide) (by decide)
    · rw [List.mem_singleton.1 h]
      exact hx'
  · refine List.pairwise_append.2 ⟨hA.far, List.pairwise_singleton _ _, fun a ha b hb k h1 h2 => ?_⟩
    rw [List.mem_singleton.1 hb] at h2
    exact hfar k h2 (hA.foot.2.2.2 a ha k h1)
  · obtain rfl : g7 = k := Option.some.inj hk
    rcases hat with h | h
    · exact .inl (hA.foot.2.1 _ h)
    · obtain ⟨cs, hbl⟩ := blk_of_own hl' rfl
      exact .inr (.inr ⟨h, hbl.lt⟩)
  · obtain rfl : g9 = k := Option.some.inj hk
    rcases hat9 with h | h
    · exact .inl (hA.foot.2.2.1 _ h)
    · obtain ⟨cs, hbl⟩ := blk_of_own hs rfl
      exact .inr (.inr ⟨Nat.le_trans ho8.size h, hbl.lt⟩)
  · rcases List.mem_append.1 hx with h | h
    · exact .inl (hA.foot.2.2.2 x h k hk)
    · rw [List.mem_singleton.1 h] at hk
      exact .inr (.inl hk)
  · rcases hk with h | h | h
    · exact ⟨(hI.own k h).1, Nat.lt_of_lt_of_le (hI.own k h).2 ho.size⟩
    · obtain ⟨cs, hbl⟩ := blk_of_own hx' h
      refine ⟨?_, hbl.lt⟩
      rcases hx'.2 with ⟨e1, _⟩ | ⟨g, cap, cur, e1, hBg, _⟩
      · rw [e1] at h
        cases h
      · rw [e1] at h
        obtain rfl : g = k := Option.some.inj h
        exact hBg
    · exact ⟨Nat.le_trans hI.base h.1, h.2⟩
set_option maxHeartbeats 1600000 in
theorem take_any (h : IsBook B w F kb ls) (v : Value) (bs : List UInt8) (hx : OwnB B w v bs) (hfar : ∀ k, v.ownBlock = some k → ¬ F k) (hn : ls.length ≤ 100000000000) :
    Calls Try.prog 28 #[.pointer (some ⟨kb, 0, none⟩), v] w fun e w' => e = .returned (.tuple #[]) ∧ Only F w w' ∧ ∃ F', IsBook B w' F' kb (ls ++ [(v, bs)]) ∧ ∀ k, F' k → F k ∨ v.ownBlock = some k ∨ w.heap.size ≤ k := by
  obtain ⟨vl, vw, hA⟩ := h.at'
  obtain ⟨ir, hir, hrz, hrs, hrb⟩ := info_parts info_rowB
  obtain ⟨ist, hist, hsz, hss, hsb⟩ := info_parts info_strB
  obtain ⟨Al, cl, rfl⟩ := own_slice1 hA.lists
  obtain ⟨Aw, cw, rfl⟩ := own_slice1 hA.was
  obtain ⟨Av, cv, rfl⟩ := own_slice1 hx
  have c0 : w.cell? ⟨kb, 0, none⟩ = some (.slice Al ls.length cl) := hA.blk.cell 0
  have HH := Lib.hid h
  have HA := Lib.hid hA
  have HX := Lib.hid hx
  have HFA := Lib.hid hfar
  clear h hA hx hfar
  go_enter Try.func28, Try.ntmps28
  go_upto_region 1 with ((with_reducible show wpList _ _ _ (Oper.mk _ (.call { callee := .builtin .append, args := _, argTypes := _ }) _ _ _ _ :: _) _ _); refine wpList_append_row rfl (.tmp 8) (.tmp 10) 31 rfl B 39 ir _ 24 Try.underlying31 hir hrz hrs hrb rfl (.slice Al ls.length cl) ls.length (ls.map (·.1)) rfl (own_only HA.out.lists ((Only.refl Nil w).alloc _) fun _ _ e => e) ⟨w.heap.size, 0, none⟩ 1 1 [.slice Av bs.length cv] rfl rfl (news_block (Blk.new w _ _)) (by intro u hu; rw [List.mem_singleton.1 hu]; rfl) (by omega) (by unfold maxLen; omega) (by omega) (by have := HH.out.base; simp; omega) ?_; intro g7 cap7 w7 hg7; have HGR := Lib.hid (HA.out.grewL ((Only.refl Nil w).alloc (.cells #[.slice Av bs.length cv] 39)) hg7); have d0 := HGR.out.2.2.2.2.2.1; have z0 := HGR.out.2.2.2.2.2.2; clear hg7)
  obtain ⟨hb8, hl8, ho8, hk8, hat8, _, _⟩ := HGR.out
  have hw8 := hk8 HA.out.was (by decide) (by decide)
  have hx8 : OwnB B _ (.slice Av bs.length cv) bs := hk8 HX.out (by decide) (by decide)
  have he8 : ∀ x ∈ ls, OwnB B _ x.1 x.2 := fun x hx => hk8 (HA.out.each x hx) (by decide) (by decide)
  clear d0 z0 HGR hk8 c0
  generalize w7.setCell ⟨kb, 0, none⟩ (.slice (some ⟨g7, 0, none⟩) (ls.length + 1) cap7) = w8 at *
  have hat9 : (Value.slice Al ls.length cl).ownBlock = some g7 ∨ w.heap.size ≤ g7 := hat8.imp id fun e => by rw [World.size_alloc] at e; omega
  have H8 := Lib.hid (show _ ∧ _ ∧ _ ∧ _ ∧ _ ∧ _ ∧ _ from ⟨hb8, hl8, ho8, hw8, hx8, he8, hat9⟩)
  have c1 : w8.cell? ⟨kb, 1, none⟩ = some (.slice Aw ls.length cw) := hb8.cell 1
  have c1a : (w8.alloc (.cells #[.string (str bs)] 9)).cell? ⟨kb, 1, none⟩ = some (.slice Aw ls.length cw) := (Only.refl Nil w8).alloc (.cells #[.string (str bs)] 9) |>.blk H8.out.1 id |>.cell 1
  have c1b : (w8.drew.alloc (.cells #[.string (str bs)] 9)).cell? ⟨kb, 1, none⟩ = some (.slice Aw ls.length cw) := (Only.refl Nil w8).drew.alloc (.cells #[.string (str bs)] 9) |>.blk H8.out.1 id |>.cell 1
  have c1d : w8.drew.cell? ⟨kb, 1, none⟩ = some (.slice Aw ls.length cw) := c1
  have hstr : (convert 39 9 (.slice Av bs.length cv)).run Try.prog w8.drew = .ok (.string (str bs)) w8.drew := str_of (P := Try.prog) (src := 39) (e := 5) (dst := 9) Try.underlying39 Try.underlying5 Try.underlying9 (OwnB.reads' hx8).drew
  have hB8 : B ≤ w8.heap.size := Nat.le_trans HH.out.base ho8.size
  clear hb8 hl8 ho8 hw8 hx8 he8 hat8 hat9
  go_region_law ((refine step_append_row (by rfl) _ _ _ (by rfl) B 9 ist _ 16 Try.underlying32 hist hsz hss hsb rfl (.slice Aw ls.length cw) ls.length (strs ls) (by rfl) (own_only H8.out.2.2.2.1 (by first | exact (Only.refl Nil _).drew.alloc _ | exact ((Only.refl Nil _).alloc _).drew | exact (Only.refl Nil _).alloc _) fun _ _ => id) ⟨w8.heap.size, 0, none⟩ 1 1 [.string (str bs)] (by rfl) (by rfl) (news_block (Blk.new w8 9 [.string (str bs)])) (by intro u hu; rw [List.mem_singleton.1 hu]; rfl) (by omega) (by unfold maxLen; omega) (by omega) (by simp; omega) ?_; intro g9 cap9 w9 hg9; have HG := Lib.hid (BookAt.grewW H8.out.1 H8.out.2.2.2.1 (by first | exact (Only.refl Nil _).drew.alloc _ | exact ((Only.refl Nil _).alloc _).drew | exact (Only.refl Nil _).alloc _) hg9 H8.out.2.2.1 ⟨HA.out.foot.1, HA.out.foot.2.2.1⟩); have d1 := HG.out.2.2.2.2.2.1; have z1 := HG.out.2.2.2.2.2.2; clear hg9))
  all_goals
    have HB := Lib.hid (BookAt.took HA.out HH.out HFA.out H8.out.2.1 H8.out.2.2.2.2.1 H8.out.2.2.2.2.2.1 H8.out.2.2.2.2.2.2 H8.out.2.2.1 HG.out.1 HG.out.2.1 HG.out.2.2.1 HG.out.2.2.2.1 (HG.out.2.2.2.2.1.imp id fun e => Nat.le_trans (by first | exact ((Only.refl Nil w8).drew.alloc _).size | exact ((Only.refl Nil w8).alloc _).drew.size | exact ((Only.refl Nil w8).alloc _).size) e))
    clear HG H8 HA HX HFA
    go_wp2_with fail
    go_end0
    exact ⟨rfl, HB.out⟩
end
end Go.Proofs.Ytkkjnembjlgiaaa
