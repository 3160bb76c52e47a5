/-
  Do events still read as they were handed in? Then their owner writes all of it over (asLent).
-/
import Derived.Test.YthoaeolohnalnaaRk
namespace Go.Proofs.Ythoaeolohnalnaa
open Go.RowKit

set_option maxHeartbeats 1600000 in
set_option maxRecDepth 100000 in
theorem same_any (kind time ip till why len : Int) (a a' : Option Addr) (n n' cap cap' : Nat) (w : World) :
    Calls Try.prog 35 #[.agg #[.int .i64 kind, .int .i64 time, .int .u32 ip, .int .i64 till, .int .i64 why, .int .i64 len, .slice a n cap], .agg #[.int .i64 kind, .int .i64 time, .int .u32 ip, .int .i64 till, .int .i64 why, .int .i64 len, .slice a' n' cap']] w
      fun r w' => r = .returned (.bool true) ∧ Only Nil w w' := by
  have hb1 : ∀ x : Int, (x == x) = true := fun x => by simp
  have b0 := hb1 kind
  have b1 := hb1 time
  have b2 := hb1 ip
  have b3 := hb1 till
  have b4 := hb1 why
  have b5 := hb1 len
  clear hb1
  go_enter Try.func35, Try.ntmps35
  go_wp2
  go_ret
  exact ⟨rfl, ((Only.refl _ _).alloc _).alloc _⟩
theorem slice_events {g n cap : Nat} (hk : n + 2 ≤ cap) (m : Nat) (W : World) : (Instr.slice 27 (.slice (some ⟨g, 0, none⟩) m cap) none (some (.int .i64 ((n : Int) + 2))) none).run Try.prog W = .ok (.slice (some ⟨g, 0, none⟩) (n + 2) cap) W := by
  obtain ⟨ie, hie, _, hes, _⟩ := info_parts info_evt
  have hel : Try.prog.elem 27 = 48 := by simp [Program.elem, Try.underlying27]
  have h := run_slice_h (P := Try.prog) W 27 (some ⟨g, 0, none⟩) m cap (by rw [hel]; exact Try.underlying27) .i64 ((n : Int) + 2) (by omega) (by omega)
  rw [hel] at h
  have hn : ((n : Int) + 2).toNat = n + 2 := by omega
  rw [h, hn]
  simp [sizeOf, typeInfo, hie, hes, Result.andThen, sliced, Addr.add]
/-- The blocks from g on. -/
def Ge (g : Nat) : Nat → Prop := fun k => g ≤ k
/-- The blocks that lent events lie in. -/
def LentS (g n : Nat) (gs : Nat → Nat) : Nat → Prop := fun k => k = g ∨ ∃ j, j < n ∧ k = gs j
def allE (l : List Ev) (gs : Nat → Nat) : Nat → Ev := fun j => if j < l.length then lentE (l.getD j ev0) (gs j) else if j = l.length then markE (-71) else markE (-72)
set_option maxHeartbeats 3200000 in
set_option maxRecDepth 100000 in
theorem asLent_fine (g : Nat) (gs : Nat → Nat) (v : Value) (l : List Ev) (w0 w : World) (hv : Evs w0 v l) (h0 : Only Nil w0 w) (hg : w0.heap.size ≤ g) (hL : LentTo w g l l.length gs) (hR : EvRow w g (l.length + 2) (allE l gs))
    (hd : ∀ j, j < l.length → (l.getD j ev0).data.length ≤ 140737488355328) (hn : l.length ≤ 1000000000000) :
    Calls Try.prog 18 #[.slice (some ⟨g, 0, none⟩) l.length (l.length + 2), v] w fun r w' => r = .returned (.bool true) ∧ Only (LentS g l.length gs) w w' := by
  have hsl := fun W => slice_events (g := g) (n := l.length) (cap := l.length + 2) (Nat.le_refl _) l.length W
  obtain ⟨A, c, rfl, hc⟩ := hv.form
  have HV := Lib.hid hv
  have H0 := Lib.hid (show ∀ W, Only (LentS g l.length gs) w W → Only Nil w0 W from fun W ho => h0.trans ho fun i hi => .inr (by
    rcases hi with rfl | ⟨j, hj, rfl⟩
    · exact hg
    · exact Nat.le_trans hg (Nat.le_of_lt (hL.low j hj))))
  have HL := Lib.hid hL
  have HR := Lib.hid hR
  have HD := Lib.hid hd
  have c71 : ∀ i, i < 7 → w.cell? ⟨g, l.length * 7 + i, none⟩ = (markE (-71)).cells[i]? := fun i hi => by
    have := hR.cell l.length (by omega) i hi
    rw [this]
    unfold allE
    rw [if_neg (by omega), if_pos rfl]
  have c72 : ∀ i, i < 7 → w.cell? ⟨g, (l.length + 1) * 7 + i, none⟩ = (markE (-72)).cells[i]? := fun i hi => by
    have := hR.cell (l.length + 1) (by omega) i hi
    rw [this]
    unfold allE
    rw [if_neg (by omega), if_neg (by omega)]
  have C71 := Lib.hid (show ∀ W, Only Nil w W → ∀ i, i < 7 → W.cell? ⟨g, l.length * 7 + i, none⟩ = (markE (-71)).cells[i]? from fun W ho i hi => by
    have h1 := c71 i hi
    have hi7 : i < (markE (-71)).cells.length := hi
    rw [List.getElem?_eq_getElem hi7] at h1 ⊢
    exact ho.cell h1 id)
  have C72 := Lib.hid (show ∀ W, Only Nil w W → ∀ i, i < 7 → W.cell? ⟨g, (l.length + 1) * 7 + i, none⟩ = (markE (-72)).cells[i]? from fun W ho i hi => by
    have h1 := c72 i hi
    have hi7 : i < (markE (-72)).cells.length := hi
    rw [List.getElem?_eq_getElem hi7] at h1 ⊢
    exact ho.cell h1 id)
  clear c71 c72 hv h0 hL hR hd hc
  go_enter Try.func18, Try.ntmps18
  have q0 : w.cell? ⟨g, l.length * 7, none⟩ = some (.int .i64 (-71)) := C71.out w (Only.refl _ _) 0 (by omega)
  have q1 : w.cell? ⟨g, l.length * 7 + 1, none⟩ = some (.int .i64 0) := C71.out w (Only.refl _ _) 1 (by omega)
  have q2 : w.cell? ⟨g, l.length * 7 + 2, none⟩ = some (.int .u32 0) := C71.out w (Only.refl _ _) 2 (by omega)
  have q3 : w.cell? ⟨g, l.length * 7 + 3, none⟩ = some (.int .i64 0) := C71.out w (Only.refl _ _) 3 (by omega)
  have q4 : w.cell? ⟨g, l.length * 7 + 4, none⟩ = some (.int .i64 0) := C71.out w (Only.refl _ _) 4 (by omega)
  have q5 : w.cell? ⟨g, l.length * 7 + 5, none⟩ = some (.int .i64 0) := C71.out w (Only.refl _ _) 5 (by omega)
  have q6 : w.cell? ⟨g, l.length * 7 + 6, none⟩ = some (.slice none 0 0) := C71.out w (Only.refl _ _) 6 (by omega)
  go_upto_region 6 with (go_at_call 35; refine (same_any (-71) 0 0 0 0 0 none none 0 0 0 0 _).mono ?_; rintro r w2 ⟨rfl, ho2⟩)
  refine wp_gen (Only Nil w) ho2 ?_
  clear ho2 q0 q1 q2 q3 q4 q5 q6
  intro w1 h1
  have q0 : w1.cell? ⟨g, (l.length + 1) * 7, none⟩ = some (.int .i64 (-72)) := C72.out w1 h1 0 (by omega)
  have q1 : w1.cell? ⟨g, (l.length + 1) * 7 + 1, none⟩ = some (.int .i64 0) := C72.out w1 h1 1 (by omega)
  have q2 : w1.cell? ⟨g, (l.length + 1) * 7 + 2, none⟩ = some (.int .u32 0) := C72.out w1 h1 2 (by omega)
  have q3 : w1.cell? ⟨g, (l.length + 1) * 7 + 3, none⟩ = some (.int .i64 0) := C72.out w1 h1 3 (by omega)
  have q4 : w1.cell? ⟨g, (l.length + 1) * 7 + 4, none⟩ = some (.int .i64 0) := C72.out w1 h1 4 (by omega)
  have q5 : w1.cell? ⟨g, (l.length + 1) * 7 + 5, none⟩ = some (.int .i64 0) := C72.out w1 h1 5 (by omega)
  have q6 : w1.cell? ⟨g, (l.length + 1) * 7 + 6, none⟩ = some (.slice none 0 0) := C72.out w1 h1 6 (by omega)
  have H1 := Lib.hid h1
  clear h1
  go_upto_region 7 with (go_at_call 35; refine (same_any (-72) 0 0 0 0 0 none none 0 0 0 0 _).mono ?_; rintro r w2 ⟨rfl, ho2⟩)
  refine wp_gen (fun W => Only Nil w W ∧ Only (LentS g l.length gs) w W) ⟨H1.out.then ho2, (H1.out.then ho2).mono fun _ _ h => h.elim⟩ ?_
  clear ho2 H1 q0 q1 q2 q3 q4 q5 q6
  intro w1 h1
  have q6 : w1.cell? ⟨g, l.length * 7 + 6, none⟩ = some (.slice none 0 0) := C71.out w1 h1.1 6 (by omega)
  have r6 : w1.cell? ⟨g, (l.length + 1) * 7 + 6, none⟩ = some (.slice none 0 0) := C72.out w1 h1.1 6 (by omega)
  have HL1 := Lib.hid (HL.out.only h1.1 fun _ _ => id)
  have HR1 := Lib.hid (HR.out.only h1.1 id)
  have H1 := Lib.hid h1.2
  clear h1 C71 C72 HL HR
  go_upto_region 9 with fail
  clear q6 r6
  refine wp_gen (fun W => Only (LentS g l.length gs) w W ∧ LentTo W g l l.length gs ∧ EvRow W g (l.length + 2) (allE l gs)) ⟨H1.out, HL1.out, HR1.out⟩ ?_
  clear H1 HL1 HR1
  intro w2 h2
  have H2 := Lib.hid h2
  clear h2
  have HLI := Lib.hid (And.intro H2.out.2.1.low H2.out.2.1.inc)
  go_loopw [9, 10] (fun gd i wr => ∃ k : Nat, k ≤ l.length ∧ i = .int .i64 (k : Nat) ∧ gd = .bool true ∧ Only (LentS g l.length gs) w wr ∧ (∀ j, k ≤ j → j < l.length → Blk wr (gs j) 5 (BC ((l.getD j ev0).data ++ [71, 72]))) ∧ EvRow wr g (l.length + 2) (allE l gs)) (fun _ i _ => l.length - (intOf i).toNat)
  case atStart => exact ⟨0, Nat.zero_le _, rfl, rfl, H2.out.1, fun j _ hj => H2.out.2.1.blk j hj, H2.out.2.2⟩
  case round =>
    obtain ⟨k, hk, rfl, rfl, hO, hB, hR⟩ := hrel
    have HO := Lib.hid hO
    have HB := Lib.hid hB
    have HR := Lib.hid hR
    clear hO hB hR H2 hsl
    by_cases hlt : k < l.length
    · have g1 : (k : Int) < (l.length : Int) := by omega
      have g2 : (k : Int) < (l.length : Int) + 2 := by omega
      obtain ⟨ga, o, rfl, hcell, hok⟩ := (HV.out.nil (H0.out _ HO.out)).at hlt
      have hcall := aslent_any (gs k) (l.getD k ev0).d (l.getD k ev0).data wr.drew (HB.out k (Nat.le_refl _) hlt) hok.rb (HD.out k hlt)
      have HV2 := Lib.hid (show ∀ W, Only (LentS g l.length gs) w W → ∀ i, i < 7 → W.cell? ⟨ga, o + k * 7 + i, none⟩ = (l.getD k ev0).cells[i]? from fun W ho i hi => by
        obtain ⟨g', o', hA, hc', _⟩ := (HV.out.nil (H0.out _ ho)).at hlt
        injection hA with hA
        injection hA with h1 h2
        subst h1 h2
        exact hc' i hi)
      have HGE := Lib.hid (show allE l gs k = lentE (l.getD k ev0) (gs k) by unfold allE; rw [if_pos hlt])
      have HBN := Lib.hid (show ∀ j, k + 1 ≤ j → j < l.length → Blk wr.drew (gs j) 5 (BC ((l.getD j ev0).data ++ [71, 72])) from fun j hj hj2 => HB.out j (by omega) hj2)
      have hrow : ∀ i, i < 7 → wr.cell? ⟨g, k * 7 + i, none⟩ = (lentE (l.getD k ev0) (gs k)).cells[i]? := fun i hi => by rw [← HGE.out]; exact HR.out.cell k (by omega) i hi
      obtain ⟨gk, hgk⟩ : ∃ x, gs k = x := ⟨_, rfl⟩
      have HGS := Lib.hid (And.intro (show g < gk from hgk ▸ HLI.out.1 k hlt) (And.intro (show ∀ j, k + 1 ≤ j → j < l.length → gs j ≠ gk from fun j hj hj2 h => by have := HLI.out.2 k j (by omega) hj2; omega) (show gs k = gk from hgk)))
      rw [hgk] at hcall HGE hrow
      obtain ⟨e, he⟩ : ∃ e, l.getD k ev0 = e := ⟨_, rfl⟩
      rw [he] at hcell hcall HGE HV2 hrow
      clear he hok HB hgk
      obtain ⟨kind, time, ip, till, why, len, a, cap, data⟩ := e
      have q6 : wr.drew.cell? ⟨ga, o + k * 7 + 6, none⟩ = some (.slice a data.length cap) := hcell 6 (by omega)
      have c6 : wr.drew.cell? ⟨g, k * 7 + 6, none⟩ = some (.slice (some ⟨gk, 0, none⟩) data.length (data.length + 2)) := hrow 6 (by omega)
      unfold Ev.d at hcall
      clear hcell hrow
      go_upto_region 11 with fail
      go_still_tail 10, (by kernel_rfl)
      change wpList _ _ _ _ _ wr.drew
      go_upto_region 12 with (go_at_call 25; refine hcall.mono ?_; rintro r w3 ⟨rfl, ho3⟩)
      have hgk2 := HGS.out.1
      refine wp_gen (fun W => Only (LentS g l.length gs) w W ∧ (∀ j, k + 1 ≤ j → j < l.length → Blk W (gs j) 5 (BC ((l.getD j ev0).data ++ [71, 72]))) ∧ EvRow W g (l.length + 2) (allE l gs)) ⟨HO.out.drew.trans ho3 fun i hi => .inl (.inr ⟨k, hlt, (show i = gk from hi).trans HGS.out.2.2.symm⟩), fun j hj hj2 => ho3.blk (HBN.out j hj hj2) (HGS.out.2.1 j hj hj2), (HR.out.only (Only.refl Nil wr).drew id).only ho3 (by intro h; have : g = gk := h; omega)⟩ ?_
      clear HO HBN HR ho3 q6 c6 hcall hgk2
      intro w4 h4
      have q0 : w4.drew.cell? ⟨ga, o + k * 7, none⟩ = some (.int .i64 kind) := HV2.out _ h4.1.drew 0 (by omega)
      have q1 : w4.drew.cell? ⟨ga, o + k * 7 + 1, none⟩ = some (.int .i64 time) := HV2.out _ h4.1.drew 1 (by omega)
      have q2 : w4.drew.cell? ⟨ga, o + k * 7 + 2, none⟩ = some (.int .u32 ip) := HV2.out _ h4.1.drew 2 (by omega)
      have q3 : w4.drew.cell? ⟨ga, o + k * 7 + 3, none⟩ = some (.int .i64 till) := HV2.out _ h4.1.drew 3 (by omega)
      have q4 : w4.drew.cell? ⟨ga, o + k * 7 + 4, none⟩ = some (.int .i64 why) := HV2.out _ h4.1.drew 4 (by omega)
      have q5 : w4.drew.cell? ⟨ga, o + k * 7 + 5, none⟩ = some (.int .i64 len) := HV2.out _ h4.1.drew 5 (by omega)
      have q6 : w4.drew.cell? ⟨ga, o + k * 7 + 6, none⟩ = some (.slice a data.length cap) := HV2.out _ h4.1.drew 6 (by omega)
      have hrow : ∀ i, i < 7 → w4.cell? ⟨g, k * 7 + i, none⟩ = (lentE ⟨kind, time, ip, till, why, len, a, cap, data⟩ gk).cells[i]? := fun i hi => by rw [← HGE.out]; exact h4.2.2.cell k (by omega) i hi
      have c0 : w4.drew.cell? ⟨g, k * 7, none⟩ = some (.int .i64 kind) := hrow 0 (by omega)
      have c1 : w4.drew.cell? ⟨g, k * 7 + 1, none⟩ = some (.int .i64 time) := hrow 1 (by omega)
      have c2 : w4.drew.cell? ⟨g, k * 7 + 2, none⟩ = some (.int .u32 ip) := hrow 2 (by omega)
      have c3 : w4.drew.cell? ⟨g, k * 7 + 3, none⟩ = some (.int .i64 till) := hrow 3 (by omega)
      have c4 : w4.drew.cell? ⟨g, k * 7 + 4, none⟩ = some (.int .i64 why) := hrow 4 (by omega)
      have c5 : w4.drew.cell? ⟨g, k * 7 + 5, none⟩ = some (.int .i64 len) := hrow 5 (by omega)
      have c6 : w4.drew.cell? ⟨g, k * 7 + 6, none⟩ = some (.slice (some ⟨gk, 0, none⟩) data.length (data.length + 2)) := hrow 6 (by omega)
      have H4 := Lib.hid h4
      clear h4 hrow
      go_still_tail 8, (by kernel_rfl)
      change wpList _ _ _ _ _ w4.drew
      go_wp2_with (go_at_call 35; refine (same_any kind time ip till why len _ _ _ _ _ _ _).mono ?_; rintro r w5 ⟨rfl, ho5⟩)
      go_roundw
      case rel => exact ⟨k + 1, by omega, by go_num, rfl, H4.out.1.drew.then (ho5.mono fun _ _ h => h.elim), fun j hj hj2 => ho5.blk (H4.out.2.1 j hj hj2) id, (H4.out.2.2.only (Only.refl Nil w4).drew id).only ho5 id⟩
      case measure => simp [intOf]; omega
    · clear HV HD HLI
      have g1 : ¬ (k : Int) < (l.length : Int) := by omega
      go_upto_region 15 with fail
      refine wp_gen (fun W => Only (LentS g l.length gs) w W ∧ EvRow W g (l.length + 2) (allE l gs)) ⟨HO.out, HR.out⟩ ?_
      clear HO HR
      intro w5 h5
      have H5 := Lib.hid h5
      clear h5
      go_loopw [13] (fun i wr => ∃ (m : Nat) (F : Nat → Ev), m ≤ l.length + 2 ∧ i = .int .i64 (m : Nat) ∧ Only (LentS g l.length gs) w wr ∧ EvRow wr g (l.length + 2) F) (fun i _ => l.length + 2 - (intOf i).toNat)
      case atStart => exact ⟨0, _, Nat.zero_le _, rfl, H5.out⟩
      case round =>
        obtain ⟨m, F, hm, rfl, hO5, hR5⟩ := hrel
        have HO5 := Lib.hid hO5
        have HR5 := Lib.hid hR5
        clear hO5 hR5 H5
        have g3 : (m : Int) ≤ (l.length : Int) + 2 := by omega
        by_cases hlm : m < l.length + 2
        · have g4 : (m : Int) < (l.length : Int) + 2 := by omega
          have hci : (Try.prog.info? 48).map (·.size) = some 7 := by kernel_rfl
          have HT := Lib.hid (And.intro (HR5.out.there hlm) hci)
          clear hci
          go_wp2_with ((with_reducible show wpList _ _ _ (Oper.mk _ (.store _ _ _) _ _ _ _ :: _) _ _); refine wpList_store_mid (by rfl) 48 (.tmp 101) (.tmp 100) (by rfl) g (m * 7) (markE (-9)).cells.toArray (by rfl) (by rfl) HT.out.1 HT.out.2 (all_oneCell_toArray (ev_cells_one _)) ?_)
          have hF := HR5.out.set hlm (markE (-9))
          have hOF : Only (LentS g l.length gs) w (wr.setCells g (m * 7) (markE (-9)).cells) := Only.setCells (.inl (.inl rfl)) _ _ HO5.out
          have HF := Lib.hid (And.intro hOF hF)
          clear hF hOF
          go_roundw
          case rel => exact ⟨m + 1, _, by omega, by go_num, HF.out⟩
          case measure => simp [intOf]; omega
        · have g4 : ¬ (m : Int) < (l.length : Int) + 2 := by omega
          go_wp2
          go_ret
          exact ⟨rfl, HO5.out⟩
theorem asLent_any (g : Nat) (gs : Nat → Nat) (v : Value) (l : List Ev) (w0 w : World) (hv : Evs w0 v l) (h0 : Only Nil w0 w) (hg : w0.heap.size ≤ g) (hL : LentTo w g l l.length gs) (hR : EvRow w g (l.length + 2) (allE l gs))
    (hd : ∀ j, j < l.length → (l.getD j ev0).data.length ≤ 140737488355328) (hn : l.length ≤ 1000000000000) :
    Calls Try.prog 18 #[.slice (some ⟨g, 0, none⟩) l.length (l.length + 2), v] w fun r w' => r = .returned (.bool true) ∧ Only (Ge g) w w' :=
  (asLent_fine g gs v l w0 w hv h0 hg hL hR hd hn).mono fun _ _ ⟨h1, h2⟩ => ⟨h1, h2.mono fun i _ hi => by
    rcases hi with rfl | ⟨j, hj, rfl⟩
    · exact Nat.le_refl _
    · exact Nat.le_of_lt (hL.low j hj)⟩
end Go.Proofs.Ythoaeolohnalnaa
