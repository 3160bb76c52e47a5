/-
  The walks of the reference's Hash.Sum and of its Sum.
-/
import Derived.Test.YthkongkbefpilaaDoorDig15
import Derived.Deep.LoopGhost
namespace Go.Proofs.YthkongkbefpilaaDoor
open Go.RowKit Sha
/-- A hash of the call's own in block ge, which began with m0 bytes taken that it does not count. -/
def EndAt (w : World) (ge : Nat) (m0 m : List UInt8) (wr : World) : Prop :=
  ∃ v, RHv wr (w.heap.size + 1) ge v (m0 ++ m) m.length ∧ Only Nil w wr ∧ w.heap.size + 1 ≤ ge ∧ Blk wr w.heap.size 23 (BC zeros32)
theorem RHv.lt {w : World} {base g : Nat} {vr : Value} {m : List UInt8} {n : Int} (h : RHv w base g vr m n) : g < w.heap.size := by
  obtain ⟨vh, hb, _, _⟩ := h
  exact hb.lt
theorem RHv.own {w : World} {base g : Nat} {vr : Value} {m : List UInt8} {n : Int} (h : RHv w base g vr m n) : ∀ k, vr.ownBlock = some k → base ≤ k ∧ k < w.heap.size := by
  obtain ⟨vh, _, _, hr⟩ := h
  exact own_block hr
theorem EndAt.wrote {w wr w1 w2 : World} {ge : Nat} {m0 m bs : List UInt8} {v : Value} (h : RHv wr (w.heap.size + 1) ge v (m0 ++ m) m.length) (ho : Only Nil w wr) (hge : w.heap.size + 1 ≤ ge) (hb : Blk wr w.heap.size 23 (BC zeros32)) (h1 : Only Nil wr w1)
    (hw : WAt w1 (w.heap.size + 1) ge v (m0 ++ m ++ bs) (m.length + bs.length) w2) : EndAt w ge m0 (m ++ bs) w2 := by
  obtain ⟨v2, a1, a2, a3⟩ := hw
  have hS : ∀ k, SW ge v k → w.heap.size + 1 ≤ k := fun k hk => by
    rcases hk with rfl | hk
    · exact hge
    · exact (h.own k hk).1
  refine ⟨v2, ?_, (ho.then h1).trans a2 fun i hi => .inr (by have := hS i hi; omega), hge, a2.blk (h1.blk hb id) fun hi => by have := hS _ hi; omega⟩
  rw [List.append_assoc] at a1
  rw [List.length_append, Int.natCast_add]
  exact a1
theorem EndAt.drew {w wr : World} {ge : Nat} {m0 m : List UInt8} (h : EndAt w ge m0 m wr) : EndAt w ge m0 m wr.drew := by
  obtain ⟨v, h1, h2, h3, h4⟩ := h
  exact ⟨v, h1.nil (Only.refl _ _).drew, h2.drew, h3, h4.drew⟩
theorem one_byte (W : World) (c : UInt8) : RB (W.alloc (.cells #[.int .u8 (by8 c)] 5)) (.slice (some ⟨W.heap.size, 0, none⟩) 1 1) [c] :=
  ⟨_, 1, rfl, by simp, fun _ => ⟨W.heap.size, 0, rfl, fun j hj => by
    obtain rfl : j = 0 := by simpa using hj
    exact (Blk.new W 5 (BC [c])).cell 0⟩⟩
theorem own_slice {w : World} {base n : Nat} {e : TypeId} {v : Value} {xs : List Value} (h : w.ownsRow base e 1 v n xs) : ∃ A c, v = .slice A n c := by
  rcases h.2 with ⟨rfl, rfl⟩ | ⟨g, cap, cur, rfl, _⟩
  · exact ⟨_, _, rfl⟩
  · exact ⟨_, _, rfl⟩
/-- What the loops read of it. -/
theorem EndAt.look {w wr : World} {ge : Nat} {m0 m : List UInt8} (h : EndAt w ge m0 m wr) : ∃ A c gh ch, wr.cell? ⟨ge, 1, none⟩ = some (.slice A ((m0.length + m.length) % 64) c) ∧ wr.cell? ⟨ge, 0, none⟩ = some (.slice (some ⟨gh, 0, none⟩) 8 ch) ∧
    ∀ j, j < 8 → wr.cell? ⟨gh, j, none⟩ = some (.int .u32 (wd ((state (m0 ++ m)).list.getD j 0))) := by
  obtain ⟨v, ⟨vh, hb, hw, hr⟩, _⟩ := h
  obtain ⟨A, c, rfl⟩ := own_slice hr
  obtain ⟨gh, ch, rfl, _, _, _, hc⟩ := own_form hw (by omega)
  refine ⟨A, c, gh, ch, ?_, hb.cell 0, fun j hj => ?_⟩
  · have := hb.cell 1
    rw [rest_length, List.length_append] at this
    exact this
  · rw [hc j hj]
    have := WC_get (state (m0 ++ m)).list j hj
    simp [List.getD, this]
theorem end_write {w wr : World} {ge : Nat} {m0 m : List UInt8} (h : EndAt w ge m0 m wr) (c : UInt8) (x : Int) (hx : x = by8 c) (hl : m.length ≤ 900000000000000000) :
    Calls Tryd.prog 40 #[.pointer (some ⟨ge, 0, none⟩), .slice (some ⟨wr.heap.size, 0, none⟩) 1 1] (wr.alloc (.cells #[.int .u8 x] 5)) fun e w' => e = .returned (.tuple #[]) ∧ EndAt w ge m0 (m ++ [c]) w' := by
  subst hx
  obtain ⟨v, h1, h2, h3, h4⟩ := h
  have h1' := h1.nil ((Only.refl Nil wr).alloc (.cells #[.int .u8 (by8 c)] 5))
  refine (rwrite_any (w.heap.size + 1) ge v (m0 ++ m) _ [c] _ _ h1' (one_byte wr c) ?_ ?_ ?_ (by omega) (by simp; omega)).mono ?_
  · intro _
    have := h1.lt
    simp [blkOf]
    omega
  · intro _ k hk
    have := (h1.own k hk).2
    simp [blkOf]
    omega
  · have := h4.lt
    simp
    omega
  · rintro e w' ⟨rfl, hW⟩
    exact ⟨rfl, EndAt.wrote h1 h2 h3 h4 ((Only.refl _ _).alloc _) hW⟩
theorem zeros_at (n k : Nat) (h : k < zeros n) : (n + 1 + k) % 64 ≠ 56 := by unfold zeros at h; omega
theorem zeros_end (n : Nat) : (n + 1 + zeros n) % 64 = 56 := by unfold zeros; omega
theorem tail_eq (n : Nat) : [0x80] ++ List.replicate (zeros n) 0 ++ (size8 n).take 8 = tail n := by
  rw [List.take_of_length_le (by simp [size8])]
  rfl
theorem size8_take (n j : Nat) (h : j < 8) : (size8 n).take (j + 1) = (size8 n).take j ++ [UInt8.ofNat (8 * n / 2 ^ (56 - 8 * j))] := by
  rw [List.take_add_one]
  simp [size8, h]
/-- The copy that Sum makes. -/
theorem end_start {w w1 wX : World} {m : List UInt8} {vh v : Value} (ho : Only Nil w w1) (hB : Blk w1 w.heap.size 23 (BC zeros32)) (hW : w1.ownsRow 0 71 1 vh 8 (WC (state m).list)) (hX : Only Nil w1 wX)
    (hr : wX.ownsRow (w.heap.size + 1) 5 1 v (rest m).length (BC (rest m))) : EndAt w wX.heap.size m [] (wX.alloc (.cells #[vh, v, .int .i64 0] 80)) := by
  have hl := (hX.blk hB id).lt
  refine ⟨v, ?_, (ho.then hX).alloc _, by omega, (hX.blk hB id).alloc _⟩
  rw [List.append_nil]
  exact ⟨vh, Blk.new wX _ [vh, v, .int .i64 0], World.ownsRow.alloc (own_only hW hX fun _ _ => id) _, World.ownsRow.alloc hr _⟩
/-- While the digest is written out. -/
def OutAt (w : World) (ge gh ch : Nat) (M : List UInt8) (O : Nat) (k : Nat) (wr : World) : Prop :=
  Only Nil w wr ∧ Blk wr w.heap.size 23 (BC zeros32) ∧ Blk wr O 23 (BC (outTo (state M) k)) ∧ wr.cell? ⟨ge, 0, none⟩ = some (.slice (some ⟨gh, 0, none⟩) 8 ch) ∧
    (∀ j, j < 8 → wr.cell? ⟨gh, j, none⟩ = some (.int .u32 (wd ((state M).list.getD j 0)))) ∧ ge < O ∧ gh < O ∧ w.heap.size < O
theorem OutAt.step {w wr : World} {ge gh ch : Nat} {M : List UInt8} {O k : Nat} (h : OutAt w ge gh ch M O k wr) (hk : k < 32) {x : BitVec 32} (hx : x = (state M).list.getD (k / 4) 0) :
    OutAt w ge gh ch M O (k + 1) (wr.setCell ⟨O, k, none⟩ (.int .u8 (wd x / 2 ^ (24 - 8 * (k % 4)) % 256))) := by
  obtain ⟨h1, h2, h3, h4, h5, h6, h7, h8⟩ := h
  have hO : Only (One O) wr (wr.setCell ⟨O, k, none⟩ (.int .u8 (wd x / 2 ^ (24 - 8 * (k % 4)) % 256))) := Only.setCell (S := One O) (Only.refl _ wr) (p := ⟨O, k, none⟩) (.inl rfl) _
  refine ⟨h1.setCell (.inr (by simp; omega)) _, h2.far (by simp; omega) _, ?_, hO.cell h4 (fun e => by simp [One] at e; omega), fun j hj => hO.cell (h5 j hj) (fun e => by simp [One] at e; omega), h6, h7, h8⟩
  have e : (.int .u8 (wd x / 2 ^ (24 - 8 * (k % 4)) % 256) : Value) = .int .u8 (by8 (Sha.byteOf (state M) k)) := by
    rw [Sha.byteOf, by8_ofNat, ← hx]
    simp [wd]
  rw [e]
  have := h3.set k (.int .u8 (by8 (Sha.byteOf (state M) k)))
  rw [BC_set, outTo_set _ _ hk] at this
  exact this
theorem OutAt.start {w wr : World} {ge : Nat} {m0 m : List UInt8} (h : EndAt w ge m0 m wr) : ∃ gh ch O, wr.heap.size = O ∧ OutAt w ge gh ch (m0 ++ m) O 0 (wr.alloc (.cells (BC zeros32).toArray 23)) := by
  obtain ⟨A, c, gh, ch, _, q0, q⟩ := h.look
  obtain ⟨v, h1, h2, h3, h4⟩ := h
  refine ⟨gh, ch, _, rfl, h2.alloc _, h4.alloc _, Blk.new wr _ _, ?_, fun j hj => ?_, h1.lt, World.block_lt_of_cell? wr _ (q 0 (by omega)), h4.lt⟩
  · exact ((Only.refl Nil wr).alloc _).cell q0 id
  · exact ((Only.refl Nil wr).alloc _).cell (q j hj) id
set_option maxHeartbeats 3200000 in
set_option maxRecDepth 100000 in
theorem rhsum_any (base g : Nat) (vr : Value) (m : List UInt8) (w : World) (hH : RHv w base g vr m m.length) (hlen : m.length ≤ 900000000000000000) :
    Calls Tryd.prog 41 #[.pointer (some ⟨g, 0, none⟩)] w fun e w' => e = .returned (.agg (BC (sha m)).toArray) ∧ Only Nil w w' := by
  obtain ⟨ib, hib, hbz, hbs, hbb⟩ := info_parts info_byte
  have hn32 : (BC zeros32).toArray.size = 32 := by simp [BC_length, zeros32]
  have HH := Lib.hid hH
  clear hH
  go_enter Tryd.func41, Tryd.ntmps41
  go_upto_region 1 with fail
  refine wp_gen (fun W => Only Nil w W ∧ Blk W w.heap.size 23 (BC zeros32)) ⟨(Only.refl _ _).alloc _, Blk.new w _ (BC zeros32)⟩ ?_
  rintro w1 ⟨ho1, hB1⟩
  obtain ⟨vh, hb, hw, hr⟩ := HH.out.nil ho1
  obtain ⟨gh, ch, rfl, _, _, _, _⟩ := own_form hw (by omega)
  have c0 : w1.cell? ⟨g, 0, none⟩ = some (.slice (some ⟨gh, 0, none⟩) 8 ch) := hb.cell 0
  have c1 : w1.cell? ⟨g, 1, none⟩ = some vr := hb.cell 1
  have HB := Lib.hid hb
  have HW := Lib.hid hw
  have HO := Lib.hid ho1
  have HB1 := Lib.hid hB1
  have hlt := hB1.lt
  go_cut [3] (fun p wx => ∃ ge, p = .pointer (some ⟨ge, 0, none⟩) ∧ EndAt w ge m [] wx)
  case first =>
    rcases hr.2 with ⟨hv, h0⟩ | ⟨gr, cap, cur, hv, hgb, hgh, hnc, hcm, hcs, htk⟩
    · have HR := Lib.hid hr
      clear hb hw ho1 hB1 hr
      subst hv
      have HE := Lib.hid (end_start (v := .slice none 0 0) HO.out HB1.out HW.out (Only.refl _ _) ⟨by simpa using HR.out.1, .inl ⟨rfl, h0⟩⟩)
      go_region
      all_goals
        go_wp2_with fail
        go_meet
        exact ⟨_, rfl, HE.out.drew⟩
    · have HR := Lib.hid hr
      clear hb hw ho1 hB1 hr hgh htk hcs
      subst hv
      by_cases h0 : (rest m).length = 0
      · have HE := Lib.hid (end_start (v := .slice none 0 0) HO.out HB1.out HW.out (Only.refl _ _) ⟨by simpa using HR.out.1, .inl ⟨rfl, h0⟩⟩)
        rw [h0] at c1
        go_region
        all_goals
          go_wp2_with fail
          go_meet
          exact ⟨_, rfl, HE.out.drew⟩
      · have hrl := rest_length m
        have hcells := World.ownsRow.cells HR.out (g := gr) rfl
        have hL := Lib.hid (show (rest m).length < 64 by omega)
        have HC := Lib.hid hcells
        clear hrl hcells
        go_region_law ((refine step_append_row (by rfl) _ _ _ (by rfl) (w.heap.size + 1) 5 ib _ 1 Tryd.underlying26 hib hbz hbs hbb rfl (.slice none 0 0) 0 [] (by rfl) ⟨rfl, .inl ⟨rfl, rfl⟩⟩ ⟨gr, 0, none⟩ (rest m).length cap (BC (rest m)) (by rfl) (BC_length _) HC.out (BC_one _) (by omega) (by have := hL.out; unfold maxLen; omega) (by have := hL.out; omega) hlt ?_; intro gg cap2 w2 hgrow; have HX := Lib.hid (show Only Nil w1 w2 from (Only.refl _ w1).drew.then (Only.of_grown hgrow.grown fun k hk => by cases hk)); have HG := Lib.hid hgrow.own; clear hgrow; have d0 : w2.cell? ⟨g, 0, none⟩ = some (.slice (some ⟨gh, 0, none⟩) 8 ch) := HX.out.cell c0 id))
        all_goals
          have HE := Lib.hid (end_start HO.out HB1.out HW.out HX.out (v := .slice (some ⟨gg, 0, none⟩) (rest m).length cap2) (by have := HG.out; rwa [Nat.zero_add, List.nil_append] at this))
          clear HG HX
          go_wp2_with fail
          go_meet
          exact ⟨_, rfl, HE.out⟩
  case rest =>
    obtain ⟨ge, rfl, hE⟩ := hcut
    clear c0 c1 HB HW HO HB1 hlt hb hw ho1 hB1 hr
    have HE := Lib.hid hE
    clear hE
    go_upto_region 3 with (go_at_call 40; refine (end_write HE.out 0x80 _ rfl (by simp)).mono ?_; rintro e w2 ⟨rfl, hW⟩)
    clear HE
    go_loopg [] (zeros m.length) (fun gk wr => ∃ k : Nat, k ≤ zeros m.length ∧ gk = zeros m.length - k ∧ EndAt w ge m ([0x80] ++ List.replicate k 0) wr)
    case atStart => exact ⟨0, Nat.zero_le _, rfl, hW⟩
    case round =>
      clear hW
      obtain ⟨k, hk, rfl, hE⟩ := hrel
      obtain ⟨A, c, gh2, ch2, q1, q0, _⟩ := hE.look
      have hlenk : ([0x80] ++ List.replicate k (0 : UInt8)).length = 1 + k := by simp; omega
      rw [hlenk] at q1
      have HL := Lib.hid hlenk
      have HE := Lib.hid hE
      clear hE hlenk
      have hk64 : zeros m.length < 64 := by unfold zeros; omega
      by_cases hlt : k < zeros m.length
      · have hne := zeros_at m.length k hlt
        have hne2 : ¬ (((m.length + (1 + k)) % 64 : Nat) : Int) = 56 := by omega
        generalize (m.length + (1 + k)) % 64 = L at *
        clear hne
        go_wp2_with (go_at_call 40; refine (end_write HE.out 0 _ rfl (by rw [HL.out]; omega)).mono ?_; rintro e w3 ⟨rfl, hW3⟩)
        have HW3 := Lib.hid hW3
        clear hW3 HE q0 q1
        go_roundg (zeros m.length - (k + 1))
        case measure => omega
        case rel =>
          refine ⟨k + 1, by omega, rfl, ?_⟩
          have := HW3.out
          rw [List.append_assoc, ← List.replicate_succ'] at this
          exact this
      · have hkz : k = zeros m.length := by omega
        have he : ((m.length + (1 + k)) % 64 : Nat) = 56 := by have := zeros_end m.length; rw [hkz]; omega
        have hN : wr.cell? ⟨g, 2, none⟩ = some (.int .i64 m.length) := by
          obtain ⟨_, _, h2, _⟩ := HE.out
          obtain ⟨vh, hb, _, _⟩ := HH.out.nil h2
          exact hb.cell 2
        rw [he] at q1
        have HZ := Lib.hid hkz
        have HM := Lib.hid hlen
        have hm0 : (0 : Int) ≤ (m.length : Int) := by omega
        have hm1 : (m.length : Int) ≤ 900000000000000000 := by omega
        clear q0 he hkz hlt hk64 hlen hk
        go_wp2
        have hE1 := HE.out
        rw [HZ.out] at hE1
        have HE1 := Lib.hid hE1
        clear hE1 HE HL q1 hN
        go_loopg [5] 8 (fun gk i wr => ∃ j : Nat, j ≤ 8 ∧ gk = 8 - j ∧ i = .int .i64 (56 - 8 * (j : Int)) ∧ EndAt w ge m ([0x80] ++ List.replicate (zeros m.length) 0 ++ (size8 m.length).take j) wr)
        case atStart => exact ⟨0, by omega, rfl, rfl, by rw [List.take_zero, List.append_nil]; exact HE1.out⟩
        case round =>
          clear HE1
          rename_i wr0 _ _ _ _ _ wr _
          obtain ⟨j, hj, rfl, rfl, hE⟩ := hrel
          have HE := Lib.hid hE
          clear hE
          by_cases hlt : j < 8
          · have ek : (56 : Int) - 8 * (j : Int) = ((56 - 8 * j : Nat) : Int) := by omega
            have hb0 : (0 : Int) ≤ ((56 - 8 * j : Nat) : Int) := by omega
            have hb1 : ((56 - 8 * j : Nat) : Int) ≤ 56 := by omega
            have HT := Lib.hid (size8_take m.length j hlt)
            have HJ := Lib.hid (show ((56 - 8 * j : Nat) : Int) - 8 = 56 - 8 * ((j + 1 : Nat) : Int) by omega)
            have HL : Hid (([0x80] ++ List.replicate (zeros m.length) 0 ++ (size8 m.length).take j).length ≤ 900000000000000000) := Lib.hid (by simp [size8]; unfold zeros; omega)
            rw [ek]
            generalize hE56 : 56 - 8 * j = E56 at *
            have HE56 := Lib.hid hE56
            clear hE56 ek
            go_wp2_with (go_at_call 40; refine (end_write HE.out (UInt8.ofNat (8 * m.length / 2 ^ E56)) _ (by rw [by8_ofNat]; simp [Int.mul_comm]) HL.out).mono ?_; rintro e w3 ⟨rfl, hW3⟩)
            have HW3 := Lib.hid hW3
            clear hW3 HE
            go_roundg (8 - (j + 1))
            case measure => omega
            case rel =>
              refine ⟨j + 1, by omega, rfl, by rw [HJ.out], ?_⟩
              have := HW3.out
              rw [List.append_assoc, ← HT.out] at this
              exact this
          · have H8 := Lib.hid (show j = 8 by omega)
            have hE2 := HE.out
            rw [H8.out, tail_eq] at hE2
            have hi8 : (56 : Int) - 8 * (j : Int) = -8 := by omega
            have HE2 := Lib.hid hE2
            rw [hi8]
            clear hE2 HE hi8 hlt hj
            go_upto_region 11 with fail
            obtain ⟨gh3, ch3, O, hOd, hO⟩ := OutAt.start HE2.out
            refine wp_gen (OutAt w ge gh3 ch3 (m ++ tail m.length) O 0) hO ?_
            intro w6 h6
            rw [hOd]
            clear HE2 hO hOd
            go_wp2
            go_loopw [7] (fun i wr => ∃ k : Nat, k ≤ 32 ∧ i = .int .i64 k ∧ OutAt w ge gh3 ch3 (m ++ tail m.length) O k wr) (fun i _ => 32 - (intOf i).toNat)
            case atStart => exact ⟨0, Nat.zero_le _, rfl, h6⟩
            case round =>
              clear h6
              rename_i wr
              obtain ⟨k, hk, rfl, hS⟩ := hrel
              by_cases hlt : k < 32
              · have c0 := hS.2.2.2.1
                have c1 := hS.2.2.2.2.1 (k / 4) (by omega)
                have c2 := hS.2.2.1.cell k
                rw [BC_get _ _ (by rw [outTo_length _ _ hk]; exact hlt)] at c2
                have f2 := hS.2.2.1.free k
                generalize hx : (state (m ++ tail m.length)).list.getD (k / 4) 0 = x at *
                have HX := Lib.hid hx
                have HS := Lib.hid hS
                clear hx hS
                have ek : (24 : Int) - 8 * ((k : Int) % 4) = ((24 - 8 * (k % 4) : Nat) : Int) := by omega
                have eq4 : ((k : Int) / 4).toNat = k / 4 := by omega
                go_wp2
                go_roundw
                case rel => exact ⟨k + 1, by omega, by go_num, HS.out.step hlt HX.out.symm⟩
                case measure => simp [intOf]; omega
              · have H32 := Lib.hid (show k = 32 by omega)
                have hS2 := hS
                rw [H32.out] at hS2
                obtain ⟨h2, h3, h5, _, _, _, _, _⟩ := hS2
                have eo : outTo (state (m ++ tail m.length)) 32 = sha m := by
                  unfold outTo
                  rw [List.take_of_length_le (by rw [outOf_length]; omega)]
                  simp [sha]
                rw [eo] at h5
                have hn : (BC (sha m)).toArray.size = 32 := by simp [BC_length, sha_length]
                clear hS eo
                go_wp2_with (first
                  | ((with_reducible show wpList _ _ _ (Oper.mk _ (.load 23 _) _ _ _ _ :: _) _ _); refine wpList_load_row rfl 23 (.tmp 6) rfl O rfl 23 (BC (sha m)).toArray (0, 0) _ h5 Tryd.underlying23 rfl (by rw [hn]; kernel_rfl) ?_)
                  | ((with_reducible show wpList _ _ _ (Oper.mk _ (.store 23 _ _) _ _ _ _ :: _) _ _); refine wpList_store_row rfl 23 (.tmp 2) (.tmp 68) rfl w.heap.size (BC (sha m)).toArray rfl rfl _ _ h3 (by rw [hn]; kernel_rfl) (hn.trans hn32.symm) (all_oneCell_toArray (BC_one _)) ?_))
                refine bodyPost_ret (results_cell_row rfl _ _ w.heap.size 23 (BC (sha m)).toArray (0, 0) _ rfl (setRow_heap _ _ _ _ _ _ h3) Tryd.underlying23 rfl (by rw [hn]; kernel_rfl)) rfl ⟨rfl, h2.setRow (.inr (by omega)) _⟩
theorem end_write_part {w wr : World} {ge : Nat} {m0 m bs : List UInt8} {vb : Value} (h : EndAt w ge m0 m wr) (hb : RB w vb bs) (hl : m.length + bs.length ≤ 1000000000000000000) :
    Calls Tryd.prog 40 #[.pointer (some ⟨ge, 0, none⟩), vb] wr fun e w' => e = .returned (.tuple #[]) ∧ EndAt w ge m0 (m ++ bs) w' := by
  obtain ⟨v, h1, h2, h3, h4⟩ := h
  refine (rwrite_any (w.heap.size + 1) ge v (m0 ++ m) _ bs vb _ h1 (hb.only h2 fun _ _ => id) ?_ ?_ ?_ (by omega) (by omega)).mono ?_
  · intro h0
    exact hb.ne h0 (by omega)
  · intro h0 k hk
    exact hb.ne h0 (by have := (h1.own k hk).1; omega)
  · have := h4.lt
    omega
  · rintro e w' ⟨rfl, hW⟩
    exact ⟨rfl, EndAt.wrote h1 h2 h3 h4 (Only.refl _ _) hW⟩
theorem EndAt.fresh (w : World) : EndAt w (w.heap.size + 1 + 1) [] [] (((w.alloc (.cells (BC zeros32).toArray 23)).alloc (.cells (WC Sha.start.list).toArray 71)).alloc (.cells #[.slice (some ⟨w.heap.size + 1, 0, none⟩) 8 8, .slice none 0 0, .int .i64 0] 80)) := by
  have := RHv.fresh (w.alloc (.cells (BC zeros32).toArray 23)) (w.heap.size + 1)
  rw [World.size_alloc] at this
  exact ⟨_, this, (((Only.refl _ _).alloc _).alloc _).alloc _, by omega, ((Blk.new w _ _).alloc _).alloc _⟩
set_option maxHeartbeats 1600000 in
set_option maxRecDepth 100000 in
theorem rsum_any (v : Value) (vs : List Value) (ps : List (List UInt8)) (w : World) (hP : Parts w v vs ps) (hlen : ps.flatten.length ≤ 900000000000000000) (hvl : vs.length ≤ 1000000000000000000) :
    Calls Tryd.prog 20 #[v] w fun e w' => e = .returned (.agg (BC (sha ps.flatten)).toArray) ∧ Only Nil w w' := by
  obtain ⟨A, c, rfl, hc, hrow⟩ := hP.row
  have hn := hP.len
  have HP := Lib.hid hP
  have HN := Lib.hid hn
  have HR := Lib.hid hrow
  clear hP hn hrow
  go_enter Tryd.func20, Tryd.ntmps20
  go_upto_region 2 with (go_at_call 39; refine (rnew_any _).mono ?_; rintro e w' ⟨rfl, rfl⟩)
  refine wp_gen (EndAt w (w.heap.size + 1 + 1) [] []) (EndAt.fresh w) ?_
  intro w1 h1
  go_wp2
  go_loopw [4] (fun i wr => ∃ k : Nat, k ≤ vs.length ∧ i = .int .i64 k ∧ EndAt w (w.heap.size + 1 + 1) [] (ps.take k).flatten wr) (fun i _ => vs.length - (intOf i).toNat)
  case atStart => exact ⟨0, Nat.zero_le _, rfl, h1⟩
  case round =>
    clear h1
    obtain ⟨k, hk, rfl, hS⟩ := hrel
    have hoN : Only Nil w wr := hS.choose_spec.2.1
    by_cases hlt : k < vs.length
    · obtain ⟨ga, oa, rfl, hcell⟩ := HR.out (by omega)
      have ck := hoN.cell (hcell k hlt) id
      have hlt2 : k < ps.length := by rw [← HN.out]; exact hlt
      have hB := Lib.hid (HP.out.each k hlt2)
      have hL := Lib.hid (show (ps.take k).flatten.length + (ps.getD k []).length ≤ 1000000000000000000 by
        have := flat_le ps (k + 1)
        rw [flat_succ ps k hlt2, List.length_append] at this
        omega)
      have HF := Lib.hid (flat_succ ps k hlt2)
      generalize vs.getD k undef = x at *
      have HS := Lib.hid hS
      clear hS hcell hoN
      go_wp2_with (go_at_call 40; refine (end_write_part HS.out hB.out hL.out).mono ?_; rintro e w3 ⟨rfl, hh3⟩)
      have H3 := Lib.hid hh3
      clear hh3
      go_wp2
      go_roundw
      case rel =>
        refine ⟨k + 1, by omega, by go_num, ?_⟩
        rw [HF.out]
        exact H3.out
      case measure => simp [intOf]; omega
    · have HK := Lib.hid (show k = vs.length by omega)
      have ht : ps.take k = ps := List.take_of_length_le (by rw [HK.out, HN.out]; omega)
      rw [ht] at hS
      have hn : (BC (sha ps.flatten)).toArray.size = 32 := by simp [BC_length, sha_length]
      have hn32 : (BC zeros32).toArray.size = 32 := by simp [BC_length, zeros32]
      obtain ⟨v, h1, h2, h3, h4⟩ := hS
      have H1 := Lib.hid h1
      have H2 := Lib.hid h2
      have H4 := Lib.hid h4
      clear h1 h2 h3 h4 ht hoN
      go_wp2_with (first
        | (go_at_call 41; refine (rhsum_any (w.heap.size + 1) (w.heap.size + 1 + 1) v ps.flatten _ H1.out hlen).mono ?_; rintro e w4 ⟨rfl, ho4⟩)
        | ((with_reducible show wpList _ _ _ (Oper.mk _ (.store 23 _ _) _ _ _ _ :: _) _ _); refine wpList_store_row rfl 23 (.tmp 2) (.tmp 19) rfl w.heap.size (BC (sha ps.flatten)).toArray rfl rfl _ _ (ho4.blk H4.out id) (by rw [hn]; kernel_rfl) (hn.trans hn32.symm) (all_oneCell_toArray (BC_one _)) ?_))
      refine bodyPost_ret (results_cell_row rfl _ _ w.heap.size 23 (BC (sha ps.flatten)).toArray (0, 0) _ rfl (setRow_heap _ _ _ _ _ _ (ho4.blk H4.out id)) Tryd.underlying23 rfl (by rw [hn]; kernel_rfl)) rfl ⟨rfl, (H2.out.then ho4).setRow (.inr (by omega)) _⟩
end Go.Proofs.YthkongkbefpilaaDoor
