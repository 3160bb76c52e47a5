/-
  The reference's hold (slipwayref19): Add.
-/
import Derived.Test.YthkongkbefpilaaDoorHr
namespace Go.Proofs.YthkongkbefpilaaDoor
set_option maxRecDepth 100000
open Go.RowKit Sha

section
variable {B : Nat} {w W w1 w2 : World} {F : Nat → Prop} {x : Nat} {v : Value} {s s0 : HS}
/-- One byte more. -/
theorem RefAt.grew (h : RefAt B W F x v s) (hI : IsRef B W F x s) {y : UInt8} {g cap : Nat} (h1 : Only Nil W w1) (hg : Grew w1 w2 B 5 v s.img.length 1 (BC s.img) [.int .u8 (by8 y)] g cap) (hr : (s.img.length : Int) + 1 ≤ s.most) :
    DidR B W F x { s with img := s.img ++ [y] } (w2.setCell ⟨x, 0, none⟩ (.slice (some ⟨g, 0, none⟩) (s.img.length + 1) cap)) ∧ w2.cell? ⟨x, 0, none⟩ = some v ∧ w2.frozen? ⟨x, 0, none⟩ = false := by
  have h' := h.only h1 fun _ _ e => e
  have hn : v.ownBlock ≠ some x := ownN_far h'.row h'.blk (by decide)
  have hO : Only (fun k => v.ownBlock = some k) w1 w2 := Only.of_grown hg.grown fun k hk => .inl hk
  have hb := hO.blk h'.blk hn
  have ho : Only (One x) w2 (w2.setCell ⟨x, 0, none⟩ (.slice (some ⟨g, 0, none⟩) (s.img.length + 1) cap)) := (Only.refl _ _).setCell (p := ⟨x, 0, none⟩) (.inl (One.self x)) _
  have hgx : g ≠ x := fun e => by
    rcases hg.at' with h2 | h2
    · exact hn (by rw [h2, e])
    · have := h'.blk.lt
      omega
  have hF : Only F W (w2.setCell ⟨x, 0, none⟩ (.slice (some ⟨g, 0, none⟩) (s.img.length + 1) cap)) := ((h1.mono (T := F) fun _ _ e => e.elim).trans hO fun k hk => .inl (h.foot.2 k hk)).setCell (p := ⟨x, 0, none⟩) (.inl h.foot.1) _
  have hrow := own_only hg.own ho fun k hk e => hgx (by have : g = k := Option.some.inj hk; rw [this]; exact e)
  refine ⟨hI.did (v := .slice (some ⟨g, 0, none⟩) (s.img.length + 1) cap) ⟨hb.set 0 _, ?_, ⟨.inl h.foot.1, fun k hk => ?_⟩, ⟨h.ok.want, by simp only [List.length_append, List.length_singleton]; omega, h.ok.most⟩⟩ hF, hb.cell 0, hb.free 0⟩
  · show World.ownsRow _ B 5 1 _ (s.img ++ [y]).length (BC (s.img ++ [y]))
    rw [List.length_append, BC_append]
    exact hrow
  · obtain rfl : g = k := Option.some.inj hk
    rcases hg.at' with h2 | h2
    · exact .inl (h.foot.2 _ h2)
    · obtain ⟨cs, hbl⟩ := blk_of_own hrow rfl
      have := h1.size
      exact .inr ⟨by omega, hbl.lt⟩
/-- A step behind what was done. -/
theorem DidR.then (h : DidR B w F x s W) (hB : B ≤ w.heap.size) (h2 : DidR B W (Wide F w W) x s0 w2) : DidR B w F x s0 w2 := by
  have ho : Only F w w2 := h.only.trans h2.only fun k hk => hk.imp id fun e => e.1
  obtain ⟨⟨v, hA⟩, hown, hb⟩ := h2.ref
  have hw : ∀ k, Wide (Wide F w W) W w2 k → Wide F w w2 k := fun k hk => by
    rcases hk with (hk | hk) | hk
    · exact .inl hk
    · exact .inr ⟨hk.1, Nat.lt_of_lt_of_le hk.2 h2.only.size⟩
    · exact .inr ⟨Nat.le_trans h.only.size hk.1, hk.2⟩
  refine ⟨⟨⟨v, hA.blk, hA.row, ⟨hw _ hA.foot.1, fun k hk => hw _ (hA.foot.2 k hk)⟩, hA.ok⟩, fun k hk => ?_, hb⟩, ho⟩
  rcases hk with hk | hk
  · exact ⟨(hown k (.inl (.inl hk))).1, (hown k (.inl (.inl hk))).2⟩
  · exact ⟨Nat.le_trans hB hk.1, hk.2⟩
set_option maxHeartbeats 1600000 in
theorem radd_any (h : IsRef B w F x s) (u : Value) (bs : List UInt8) (hb : RB w u bs) (hd : 0 < bs.length → ∀ k, blkOf u = some k → ¬ F k ∧ k < w.heap.size) :
    Calls Tryd.prog 25 #[.pointer (some ⟨x, 0, none⟩), u] w fun e w' => e = .returned (.int .i64 (s.add bs : Int)) ∧ DidR B w F x (s.added bs) w' := by
  obtain ⟨v, hA⟩ := h.at'
  obtain ⟨A, c, rfl⟩ := own_slice1 hA.row
  obtain ⟨Au, cu, rfl, _⟩ := hb.form
  obtain ⟨ib, hib, hbz, hbs, hbb⟩ := info_parts info_byte
  have c0 := hA.c0
  have c1 := hA.c1
  have c34 := hA.c34
  have hr := hA.ok.room
  have hm := hA.ok.most
  have HN := Lib.hid (DidR.nil h (Only.refl Nil w))
  have HH := Lib.hid h
  have HB := Lib.hid hb
  have HD := Lib.hid hd
  clear h hb hd hA
  unfold HS.added HS.add
  by_cases hs : s.shut = true
  · rw [hs] at c34
    rw [if_pos hs]
    clear hs
    go_enter Tryd.func25, Tryd.ntmps25
    go_wp2
    go_ret
    exact ⟨rfl, HN.out⟩
  · have hs' : s.shut = false := by simpa using hs
    rw [hs'] at c34
    rw [if_neg hs]
    clear hs hs'
    by_cases hf : s.most - s.img.length < bs.length
    · rw [if_pos hf]
      go_enter Tryd.func25, Tryd.ntmps25
      go_upto_region 3 with fail
      go_quiet (fail)
      go_wp2
      go_ret
      exact ⟨rfl, DidR.nil HH.out ((Only.refl Nil w).drewN nq)⟩
    · rw [if_neg hf, if_pos rfl]
      have hroom : (s.img.length : Int) + bs.length ≤ s.most := by omega
      have hf' : ¬ (bs.length : Int) > s.most - s.img.length := by omega
      go_enter Tryd.func25, Tryd.ntmps25
      go_upto_region 3 with fail
      go_quiet (fail)
      have HN2 := Lib.hid (DidR.nil HH.out ((Only.refl Nil w).drewN nq))
      generalize w.drewN nq = w3 at *
      clear c0 c1 c34 HN
      go_wp2
      go_loopw [5] (fun i W => ∃ k : Nat, k ≤ bs.length ∧ i = .int .i64 k ∧ DidR B w F x { s with img := s.img ++ bs.take k } W) (fun i _ => bs.length - (intOf i).toNat)
      case atStart => exact ⟨0, Nat.zero_le _, rfl, by
        have := HN2.out
        rwa [show ({ s with img := s.img ++ bs.take 0 } : HS) = s by simp]⟩
      case round =>
        obtain ⟨k, hk, rfl, hd⟩ := hrel
        by_cases hkl : k < bs.length
        · have g1 : (k : Int) < (bs.length : Int) := by omega
          have hrb := HB.out.only hd.only fun g hg hF => (HD.out (by omega) g hg).1 hF
          obtain ⟨Au', cu', e1, _, hrd⟩ := hrb
          obtain ⟨gu, ou, e2, hcell⟩ := hrd (by omega)
          injection e1 with e1 _ e1c
          subst e1 e1c e2
          have q0 := hcell k hkl
          have q0d : wr.drew.cell? ⟨gu, ou + k, none⟩ = _ := q0
          obtain ⟨y, hy⟩ : ∃ y, bs.getD k 0 = y := ⟨_, rfl⟩
          rw [hy] at q0 q0d
          obtain ⟨s1, hs1⟩ : ∃ y, ({ s with img := s.img ++ bs.take k } : HS) = y := ⟨_, rfl⟩
          have hs1l : s1.img.length = s.img.length + k := by rw [← hs1]; simp; omega
          have hs1m : s1.most = s.most := by rw [← hs1]
          have HS1 := Lib.hid (show ({ s1 with img := s1.img ++ [y] } : HS) = { s with img := s.img ++ bs.take (k + 1) } by
            rw [← hs1, ← hy, List.take_add_one, List.getD, List.getElem?_eq_getElem hkl]
            simp)
          rw [hs1] at hd
          obtain ⟨v1, hA1⟩ := hd.ref.at'
          obtain ⟨A1, k1, rfl⟩ := own_slice1 hA1.row
          have c0 := hA1.c0
          have c0d : wr.drew.cell? ⟨x, 0, none⟩ = some (.slice A1 s1.img.length k1) := c0
          have c0a : (wr.alloc (.cells #[.int .u8 (by8 y)] 5)).cell? ⟨x, 0, none⟩ = some (.slice A1 s1.img.length k1) := (hA1.blk.alloc _).cell 0
          have c0b : (wr.drew.alloc (.cells #[.int .u8 (by8 y)] 5)).cell? ⟨x, 0, none⟩ = some (.slice A1 s1.img.length k1) := (hA1.blk.drew.alloc _).cell 0
          have HA1 := Lib.hid hA1
          have HD1 := Lib.hid hd
          have hBw : B ≤ wr.heap.size := hd.ref.base
          have hr1 : (s1.img.length : Int) + 1 ≤ s1.most := by omega
          have hr2 : s1.img.length ≤ 16777216 := by omega
          clear hd hA1 hcell hrd hs1 hs1l hs1m hy
          go_upto_region 8 with fail
          go_region_law ((refine step_append_row (by rfl) _ _ _ (by rfl) B 5 ib _ 1 Tryd.underlying26 hib hbz hbs hbb rfl (.slice A1 s1.img.length k1) s1.img.length (BC s1.img) (by rfl) (own_only HA1.out.row (by first | exact (Only.refl Nil _).drew.alloc _ | exact ((Only.refl Nil _).alloc _).drew | exact (Only.refl Nil _).alloc _) fun _ _ => id) ⟨wr.heap.size, 0, none⟩ 1 1 [.int .u8 (by8 y)] (by rfl) (by rfl) (news_block (Blk.new wr 5 [.int .u8 (by8 y)])) (by intro u hu; rw [List.mem_singleton.1 hu]; rfl) (by omega) (by unfold maxLen; omega) (by omega) (by simp; omega) ?_; intro g9 cap9 w9 hg9; have HG := Lib.hid (RefAt.grew HA1.out HD1.out.ref (by first | exact (Only.refl Nil _).drew.alloc _ | exact ((Only.refl Nil _).alloc _).drew | exact (Only.refl Nil _).alloc _) hg9 (by omega)); have d0 := HG.out.2.1; have z0 := HG.out.2.2; clear hg9))
          all_goals
            have HK := Lib.hid (HD1.out.then HH.out.base HG.out.1)
            rw [HS1.out] at HK
            clear HG d0 z0
            go_wp2_with fail
            go_roundw
            case rel => exact ⟨k + 1, by omega, by go_num, HK.out⟩
            case measure => simp only [intOf]; omega
        · have hkl2 : k = bs.length := by omega
          subst hkl2
          have HX := Lib.hid hd
          clear hd
          go_wp2
          go_ret
          exact ⟨rfl, by
            have := HX.out
            rwa [List.take_length] at this⟩
end
end Go.Proofs.YthkongkbefpilaaDoor
