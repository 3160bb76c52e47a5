/-
  The reference's hash under way; the walk of its Write.
-/
import Derived.Test.YthkongkbefpilaaDoorDig13
import Derived.Deep.RegionLaw
namespace Go.Proofs.YthkongkbefpilaaDoor
open Go.RowKit Sha
theorem own_ne_blk {w : World} {base : Nat} {e t : TypeId} {v : Value} {n : Nat} {xs cs : List Value} {g : Nat} (h : w.ownsRow base e 1 v n xs) (hb : Blk w g t cs) (ht : e ≠ t) : v.ownBlock ≠ some g := by
  rcases h.2 with ⟨rfl, _⟩ | ⟨k, cap, cur, rfl, _, hh, _⟩
  · simp [Value.ownBlock]
  · intro hk
    obtain rfl : k = g := Option.some.inj hk
    rw [hb] at hh
    injection hh with hh
    injection hh with _ hh
    exact ht hh.symm
theorem own_ne_own {w : World} {base base' : Nat} {e t : TypeId} {v v' : Value} {n n' : Nat} {xs xs' : List Value} (h : w.ownsRow base e 1 v n xs) (h' : w.ownsRow base' t 1 v' n' xs') (ht : e ≠ t) {k : Nat} (hk : v.ownBlock = some k) : v'.ownBlock ≠ some k := by
  intro hk'
  rcases h.2 with ⟨rfl, _⟩ | ⟨g, cap, cur, rfl, _, hh, _⟩
  · cases hk
  · rcases h'.2 with ⟨rfl, _⟩ | ⟨g', cap', cur', rfl, _, hh', _⟩
    · cases hk'
    · obtain rfl : g = k := Option.some.inj hk
      obtain rfl : g' = g := Option.some.inj hk'
      rw [hh] at hh'
      injection hh' with hh'
      injection hh' with _ hh'
      exact ht hh'
/-- What a hash of the reference in block g has taken: the bytes m; its rest lies in the row vr; its count is n. -/
def RHv (w : World) (base g : Nat) (vr : Value) (m : List UInt8) (n : Int) : Prop :=
  ∃ vh, Blk w g 80 [vh, vr, .int .i64 n] ∧ w.ownsRow 0 71 1 vh 8 (WC (state m).list) ∧ w.ownsRow base 5 1 vr (rest m).length (BC (rest m))
/-- What its Write may turn. -/
def SW (g : Nat) (vr : Value) : Nat → Prop := fun k => k = g ∨ vr.ownBlock = some k
section
variable {w w1 w2 : World} {base g : Nat} {vr : Value} {m : List UInt8} {n : Int}
theorem RHv.only {S : Nat → Prop} (h : RHv w base g vr m n) (ho : Only S w w2) (h1 : ¬ S g) (h2 : ∀ k, vr.ownBlock = some k → ¬ S k) (h3 : ∀ k t cs, S k → w.heap[k]? = some (.cells cs t (0, 0)) → t ≠ 71) : RHv w2 base g vr m n := by
  obtain ⟨vh, hb, hw, hr⟩ := h
  refine ⟨vh, ho.blk hb h1, own_only hw ho fun k hk hS => ?_, own_only hr ho h2⟩
  rcases hw.2 with ⟨rfl, _⟩ | ⟨g', cap, cur, rfl, _, hh, _⟩
  · cases hk
  · obtain rfl : g' = k := Option.some.inj hk
    exact h3 _ _ _ hS hh rfl
theorem RHv.nil (h : RHv w base g vr m n) (ho : Only Nil w w2) : RHv w2 base g vr m n := h.only ho id (fun _ _ => id) fun _ _ _ h => h.elim
/-- Behind the append to the rest. -/
theorem RHv.appended {vh : Value} (hb : Blk w g 80 [vh, vr, .int .i64 n]) (hw : w.ownsRow 0 71 1 vh 8 (WC (state m).list)) (hr : w.ownsRow base 5 1 vr (rest m).length (BC (rest m)))
    (h1 : Only Nil w w1) {c : UInt8} {gg cap : Nat} (hg : Grew w1 w2 base 5 vr (rest m).length 1 (BC (rest m)) (BC [c]) gg cap) :
    Blk w2 g 80 [vh, vr, .int .i64 n] ∧ w2.ownsRow 0 71 1 vh 8 (WC (state m).list) ∧ w2.ownsRow base 5 1 (.slice (some ⟨gg, 0, none⟩) ((rest m).length + 1) cap) ((rest m).length + 1) (BC (rest m ++ [c])) ∧
      Only (fun k => vr.ownBlock = some k) w w2 ∧ (vr.ownBlock = some gg ∨ w.heap.size ≤ gg) := by
  have h2 : Only (fun k => vr.ownBlock = some k) w w2 := (h1.mono fun _ _ h => h.elim).then (Only.of_grown hg.grown fun k hk => .inl hk)
  refine ⟨h2.blk hb (own_ne_blk hr hb (by decide)), own_only hw h2 fun k hk hk' => own_ne_own hw hr (by decide) hk hk', ?_, h2, ?_⟩
  · rw [BC_append]; exact hg.own
  · rcases hg.at' with h | h
    · exact .inl h
    · exact .inr (by rw [h]; exact h1.size)
end
theorem own_farE {w : World} {base : Nat} {e : TypeId} {v : Value} {n : Nat} {xs : List Value} (h : w.ownsRow base e 1 v n xs) {p : Addr} (hp : v.ownBlock ≠ some p.block) (u : Value) : (w.setCell p u).ownsRow base e 1 v n xs := by
  obtain ⟨h1, h2⟩ := h
  refine ⟨h1, ?_⟩
  rcases h2 with h2 | ⟨g, cap, cur, rfl, hg, hh, r⟩
  · exact .inl h2
  · exact .inr ⟨g, cap, cur, rfl, hg, (Below.heap_setCell w p u g (fun e => hp (by rw [← e]; rfl))).trans hh, r⟩
/-- Between the fields' stores: the words of ws, the rest's bytes rs, no tie between the two yet. -/
def Mid (w : World) (base g : Nat) (vr : Value) (vh v : Value) (ws : List (BitVec 32)) (rs : List UInt8) (n : Int) (wx : World) : Prop :=
  Blk wx g 80 [vh, v, .int .i64 n] ∧ wx.ownsRow 0 71 1 vh 8 (WC ws) ∧ wx.ownsRow base 5 1 v rs.length (BC rs) ∧ Only (SW g vr) w wx ∧ (∀ k, v.ownBlock = some k → vr.ownBlock = some k ∨ w.heap.size ≤ k)
section
variable {w wx : World} {base g : Nat} {vr vh v : Value} {ws : List (BitVec 32)} {rs : List UInt8} {n : Int}
theorem Mid.count (h : Mid w base g vr vh v ws rs n wx) (n' : Int) : Mid w base g vr vh v ws rs n' (wx.setCell ⟨g, 2, none⟩ (.int .i64 n')) :=
  ⟨h.1.set 2 _, own_farE h.2.1 (own_ne_blk h.2.1 h.1 (by decide)) _, own_farE h.2.2.1 (own_ne_blk h.2.2.1 h.1 (by decide)) _, h.2.2.2.1.setCell (.inl (.inl rfl)) _, h.2.2.2.2⟩
theorem Mid.putRest {v2 : Value} {rs2 : List UInt8} (hb : Blk wx g 80 [vh, v, .int .i64 n]) (hw : wx.ownsRow 0 71 1 vh 8 (WC ws)) (hr : wx.ownsRow base 5 1 v2 rs2.length (BC rs2)) (ho : Only (SW g vr) w wx) (hv : ∀ k, v2.ownBlock = some k → vr.ownBlock = some k ∨ w.heap.size ≤ k) :
    Mid w base g vr vh v2 ws rs2 n (wx.setCell ⟨g, 1, none⟩ v2) :=
  ⟨hb.set 1 _, own_farE hw (own_ne_blk hw hb (by decide)) _, own_farE hr (own_ne_blk hr hb (by decide)) _, ho.setCell (.inl (.inl rfl)) _, hv⟩
theorem Mid.putWords {vh2 : Value} {ws2 : List (BitVec 32)} (hb : Blk wx g 80 [vh, v, .int .i64 n]) (hw : wx.ownsRow 0 71 1 vh2 8 (WC ws2)) (hr : wx.ownsRow base 5 1 v rs.length (BC rs)) (ho : Only (SW g vr) w wx) (hv : ∀ k, v.ownBlock = some k → vr.ownBlock = some k ∨ w.heap.size ≤ k) :
    Mid w base g vr vh2 v ws2 rs n (wx.setCell ⟨g, 0, none⟩ vh2) :=
  ⟨hb.set 0 _, own_farE hw (own_ne_blk hw hb (by decide)) _, own_farE hr (own_ne_blk hr hb (by decide)) _, ho.setCell (.inl (.inl rfl)) _, hv⟩
end
/-- While bytes are taken. -/
def WAt (w : World) (base g : Nat) (vr : Value) (m : List UInt8) (n : Int) (wr : World) : Prop :=
  ∃ v, RHv wr base g v m n ∧ Only (SW g vr) w wr ∧ (∀ k, v.ownBlock = some k → vr.ownBlock = some k ∨ w.heap.size ≤ k)
set_option maxHeartbeats 3200000 in
set_option maxRecDepth 100000 in
theorem rwrite_any (base g : Nat) (vr : Value) (m : List UInt8) (n : Int) (bs : List UInt8) (vb : Value) (w : World) (hH : RHv w base g vr m n) (hb : RB w vb bs) (h1 : 0 < bs.length → blkOf vb ≠ some g) (h2 : 0 < bs.length → ∀ k, vr.ownBlock = some k → blkOf vb ≠ some k)
    (hbase : base ≤ w.heap.size) (hn : 0 ≤ n) (hl : n + bs.length ≤ 1000000000000000000) :
    Calls Tryd.prog 40 #[.pointer (some ⟨g, 0, none⟩), vb] w fun e w' => e = .returned (.tuple #[]) ∧ WAt w base g vr (m ++ bs) (n + bs.length) w' := by
  obtain ⟨ib, hib, hbz, hbs, hbb⟩ := info_parts info_byte
  have hkeep : ∀ wr, Only (SW g vr) w wr → RB wr vb bs := fun wr ho => by
    by_cases h0 : 0 < bs.length
    · exact hb.only ho fun k hk hS => by
        rcases hS with rfl | hS
        · exact h1 h0 hk
        · exact h2 h0 k hS hk
    · obtain ⟨A, c, hv, hc, _⟩ := hb
      exact ⟨A, c, hv, hc, fun h => absurd h h0⟩
  have HK := Lib.hid hkeep
  have HH := Lib.hid hH
  obtain ⟨A, c, rfl, hc⟩ := hb.form
  clear hb hkeep hH h1 h2
  go_enter Tryd.func40, Tryd.ntmps40
  go_wp2
  go_loopw [4] (fun i wr => ∃ k : Nat, k ≤ bs.length ∧ i = .int .i64 k ∧ WAt w base g vr (m ++ bs.take k) (n + k) wr) (fun i _ => bs.length - (intOf i).toNat)
  case atStart => exact ⟨0, Nat.zero_le _, rfl, vr, by rw [List.take_zero, List.append_nil, Int.natCast_zero, Int.add_zero]; exact HH.out, Only.refl _ _, fun k hk => .inl hk⟩
  case round =>
    obtain ⟨k, hk, rfl, v, hRH, ho, hbk⟩ := hrel
    by_cases hlt : k < bs.length
    · obtain ⟨A', c', e', _, hrow⟩ := HK.out wr ho
      obtain ⟨gb, ob, rfl, hcell⟩ := hrow (by omega)
      injection e' with e1 e2 e3
      subst e1 e3
      have cb := hcell k hlt
      have HT := Lib.hid (show m ++ bs.take (k + 1) = m ++ bs.take k ++ [bs.getD k 0] by rw [List.take_add_one]; simp [List.getD, hlt])
      generalize bs.getD k 0 = x at *
      generalize m ++ bs.take k = m' at *
      obtain ⟨vh, hblk, hwds, hrest⟩ := hRH
      have c0 : wr.cell? ⟨g, 0, none⟩ = some vh := hblk.cell 0
      have c1 : wr.cell? ⟨g, 1, none⟩ = some v := hblk.cell 1
      have c2 : wr.cell? ⟨g, 2, none⟩ = some (.int .i64 (n + k)) := hblk.cell 2
      have hrl := rest_length m'
      have HB := Lib.hid hblk
      have HW := Lib.hid hwds
      have HR := Lib.hid hrest
      have hsz := ho.size
      have HO := Lib.hid ho
      have HBK := Lib.hid hbk
      clear hrow hcell hblk hwds hrest ho hbk
      have hr64 : (rest m').length < 64 := by omega
      have g4 : (k : Int) < (bs.length : Int) := by omega
      clear hrl
      go_upto_region 3 with fail
      go_cut [21] from 5 to 51 (fun _ wx => ∃ gg cap, Mid w base g vr vh (.slice (some ⟨gg, 0, none⟩) ((rest m').length + 1) cap) (state m').list (rest m' ++ [x]) (n + k) wx)
      case first =>
        have ca : (wr.alloc (.cells #[.int .u8 (by8 x)] 5)).cell? ⟨g, 1, none⟩ = some v := (HB.out.alloc _).cell 1
        go_region_law ((refine step_append_row (by rfl) _ _ _ (by rfl) base 5 ib _ 1 Tryd.underlying26 hib hbz hbs hbb rfl v (rest m').length (BC (rest m')) (by rfl) (HR.out.alloc _) ⟨wr.heap.size, 0, none⟩ 1 1 (BC [x]) (by rfl) (by rfl) (news_block (Blk.new wr 5 (BC [x]))) (BC_one _) (by omega) (by unfold maxLen; omega) (by omega) (by simp; omega) ?_; intro gg cap w2 hgrow; have HA := Lib.hid (RHv.appended HB.out HW.out HR.out (by first | exact (Only.refl _ _).drew.alloc _ | exact ((Only.refl _ _).alloc _).drew | exact (Only.refl _ _).alloc _) hgrow); clear hgrow; have d1 : w2.cell? ⟨g, 1, none⟩ = some v := HA.out.1.cell 1; have d2 : w2.frozen? ⟨g, 1, none⟩ = false := HA.out.1.free 1))
        all_goals
          have HM := Lib.hid (show Mid w base g vr vh (.slice (some ⟨gg, 0, none⟩) ((rest m').length + 1) cap) (state m').list (rest m' ++ [x]) (n + k) (w2.setCell ⟨g, 1, none⟩ (.slice (some ⟨gg, 0, none⟩) ((rest m').length + 1) cap)) from by
            obtain ⟨a1, a2, a3, a4, a5⟩ := HA.out
            refine Mid.putRest a1 a2 (by rw [List.length_append]; exact a3) (HO.out.trans a4 fun i hi => ?_) fun i hi => ?_
            · rcases HBK.out i hi with h | h
              · exact .inl (.inr h)
              · exact .inr h
            · obtain rfl : gg = i := Option.some.inj hi
              rcases a5 with h | h
              · exact HBK.out _ h
              · exact .inr (Nat.le_trans hsz h))
          clear HA d1 d2
          go_wp2_with fail
          go_meet
          exact ⟨gg, cap, HM.out⟩
      case rest =>
        obtain ⟨gg, cap, hM⟩ := hcut
        have c0' : wc.cell? ⟨g, 0, none⟩ = some vh := hM.1.cell 0
        have c1' : wc.cell? ⟨g, 1, none⟩ = some (.slice (some ⟨gg, 0, none⟩) ((rest m').length + 1) cap) := hM.1.cell 1
        have c2' : wc.cell? ⟨g, 2, none⟩ = some (.int .i64 (n + k)) := hM.1.cell 2
        have d2' : wc.frozen? ⟨g, 2, none⟩ = false := hM.1.free 2
        have hM2 := Lib.hid (hM.count (n + k + 1))
        clear hM c0 c1 c2 HB HW HR HO HBK cb
        by_cases h64 : (rest m').length + 1 = 64
        · have hl64 := Lib.hid (show m'.length % 64 + [x].length = 64 by have := rest_length m'; simp; omega)
          have hi64 : ((rest m').length : Int) + 1 = 64 := by omega
          go_upto_region 6 with fail
          rw [h64] at hM2
          refine wp_gen (Mid w base g vr vh (.slice (some ⟨gg, 0, none⟩) 64 cap) (state m').list (rest m' ++ [x]) (n + k + 1)) hM2.out ?_
          intro w4 hM4
          clear c0' c1' c2' d2' hM2
          have c0' : w4.cell? ⟨g, 0, none⟩ = some vh := hM4.1.cell 0
          have c1' : w4.cell? ⟨g, 1, none⟩ = some (.slice (some ⟨gg, 0, none⟩) 64 cap) := hM4.1.cell 1
          have hM := Lib.hid hM4
          clear hM4
          have hbl : (rest m' ++ [x]).length = 64 := by rw [List.length_append]; exact h64
          go_cut [46] from 5 to 51 (fun _ wx => ∃ vh2, Mid w base g vr vh2 (.slice (some ⟨gg, 0, none⟩) 64 cap) (gone (state m') (rest m' ++ [x])).list (rest m' ++ [x]) (n + k + 1) wx)
          case first =>
            have hRB : RB w4 (.slice (some ⟨gg, 0, none⟩) 64 cap) (rest m' ++ [x]) := OB.reads (base := base) hM.out.2.2.1
            have HRB := Lib.hid hRB.drew
            have HRV := Lib.hid (own_reads (w := w4.drew) hM.out.2.1)
            clear hRB
            go_region_law ((go_simp; go_at_call 45; refine (rgone_any (state m') vh (rest m' ++ [x]) _ w4.drew HRV.out HRB.out hbl).mono ?_; rintro e w5 ⟨gr, cr, rfl, how, hon⟩; have HA := Lib.hid (And.intro how hon); clear how hon; have d1 : w5.cell? ⟨g, 0, none⟩ = some vh := (HA.out.2.blk hM.out.1.drew id).cell 0; have d2 : w5.frozen? ⟨g, 0, none⟩ = false := (HA.out.2.blk hM.out.1.drew id).free 0))
            all_goals
              have HM := Lib.hid (show Mid w base g vr (.slice (some ⟨gr, 0, none⟩) 8 cr) (.slice (some ⟨gg, 0, none⟩) 64 cap) (gone (state m') (rest m' ++ [x])).list (rest m' ++ [x]) (n + k + 1) (w5.setCell ⟨g, 0, none⟩ (.slice (some ⟨gr, 0, none⟩) 8 cr)) from by
                obtain ⟨a1, a2, a3, a4, a5⟩ := hM.out
                have hon := HA.out.2
                exact Mid.putWords (hon.blk a1.drew id) (World.ownsRow.mono HA.out.1 (Nat.zero_le _)) (own_only (w := w4.drew) a3 hon fun _ _ => id) (a4.drew.trans hon fun _ h => h.elim) a5)
              clear HA d1 d2
              go_wp2_with fail
              go_meet
              exact ⟨_, HM.out⟩
          case rest =>
            obtain ⟨vh2, hM2⟩ := hcut
            have c1'' : wc.cell? ⟨g, 1, none⟩ = some (.slice (some ⟨gg, 0, none⟩) 64 cap) := hM2.1.cell 1
            have d1'' : wc.frozen? ⟨g, 1, none⟩ = false := hM2.1.free 1
            have HM := Lib.hid (show Mid w base g vr vh2 (.slice none 0 0) (gone (state m') (rest m' ++ [x])).list [] (n + k + 1) (wc.setCell ⟨g, 1, none⟩ (.slice none 0 0)) from
              Mid.putRest hM2.1 hM2.2.1 ⟨rfl, .inl ⟨rfl, rfl⟩⟩ hM2.2.2.2.1 fun k hk => by cases hk)
            clear hM2 hM c0' c1'
            go_wp2
            go_roundw
            case rel =>
              refine ⟨k + 1, by omega, by go_num, .slice none 0 0, ?_, HM.out.2.2.2⟩
              rw [HT.out]
              exact ⟨vh2, by rw [show n + ((k + 1 : Nat) : Int) = n + k + 1 by omega]; exact HM.out.1, by rw [state_whole _ _ hl64.out]; exact HM.out.2.1, by rw [rest_whole _ _ hl64.out]; exact HM.out.2.2.1⟩
            case measure => simp [intOf]; omega
        · have hl64 := Lib.hid (show m'.length % 64 + [x].length < 64 by have := rest_length m'; simp; omega)
          have hi64 : ¬ ((rest m').length : Int) + 1 = 64 := by omega
          have hi65 : ((rest m').length : Int) + 1 < 64 := by omega
          go_wp2
          go_roundw
          case rel =>
            refine ⟨k + 1, by omega, by go_num, .slice (some ⟨gg, 0, none⟩) ((rest m').length + 1) cap, ?_, hM2.out.2.2.2⟩
            rw [HT.out]
            exact ⟨vh, by rw [show n + ((k + 1 : Nat) : Int) = n + k + 1 by omega]; exact hM2.out.1, by rw [state_part _ _ hl64.out]; exact hM2.out.2.1, by rw [rest_part _ _ hl64.out]; exact hM2.out.2.2.1⟩
          case measure => simp [intOf]; omega
    · have Hk := Lib.hid (show k = bs.length by omega)
      have HR := Lib.hid hRH
      have HO := Lib.hid ho
      have HB := Lib.hid hbk
      clear hRH ho hbk
      go_wp2
      go_end0
      refine ⟨rfl, v, ?_, HO.out, HB.out⟩
      have := HR.out
      rw [Hk.out, List.take_length] at this
      exact this
end Go.Proofs.YthkongkbefpilaaDoor
