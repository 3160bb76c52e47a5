/-
  Events as their owner hands them in (lent): what they read as, and where they lie.
-/
import Derived.Test.YthoaeolohnalnaaRb
import Derived.Test.YthoaeolohnalnaaJm
import Derived.Deep.MidRow
namespace Go.Proofs.Ythoaeolohnalnaa
open Go.RowKit

/-- A block of N events. -/
structure EvRow (W : World) (g N : Nat) (F : Nat → Ev) : Prop where
  lt : g < W.heap.size
  cell : ∀ j, j < N → ∀ i, i < 7 → W.cell? ⟨g, j * 7 + i, none⟩ = (F j).cells[i]?
  free : ∀ i, W.frozen? ⟨g, i, none⟩ = false
theorem ev_cells_len (e : Ev) : e.cells.length = 7 := rfl
section
variable {W W' : World} {g N : Nat} {F : Nat → Ev}
theorem EvRow.only {S : Nat → Prop} (h : EvRow W g N F) (ho : Only S W W') (hS : ¬ S g) : EvRow W' g N F := by
  refine ⟨Nat.lt_of_lt_of_le h.lt ho.size, fun j hj i hi => ?_, fun i => ?_⟩
  · have h1 := h.cell j hj i hi
    have hi7 : i < (F j).cells.length := hi
    rw [List.getElem?_eq_getElem hi7] at h1 ⊢
    exact ho.cell h1 hS
  · have := h.free i
    unfold World.frozen? at this ⊢
    rw [ho.block g h.lt hS]
    exact this
theorem EvRow.there (h : EvRow W g N F) {k : Nat} (hk : k < N) : W.there g (k * 7) 7 := fun j hj => by
  refine ⟨?_, h.free _⟩
  rw [h.cell k hk j hj]
  have hi7 : j < (F k).cells.length := hj
  rw [List.getElem?_eq_getElem hi7]
  rfl
theorem EvRow.range (h : EvRow W g N F) {k : Nat} (hk : k < N) : W.rangeAt g (k * 7) (F k).cells := fun j v hv => by
  have hj : j < (F k).cells.length := (List.getElem?_eq_some_iff.1 hv).1
  rw [h.cell k hk j hj]
  exact hv
theorem size_setCells (b : Nat) : ∀ (vs : List Value) (o : Nat) (w : World), (w.setCells b o vs).heap.size = w.heap.size
  | [], _, _ => rfl
  | v :: r, o, w => by
    rw [World.setCells, size_setCells b r]
    simp [World.setCell]
theorem EvRow.set (h : EvRow W g N F) {k : Nat} (hk : k < N) (e : Ev) : EvRow (W.setCells g (k * 7) e.cells) g N (fun j => if j = k then e else F j) := by
  refine ⟨by rw [size_setCells]; exact h.lt, fun j hj i hi => ?_, fun i => by rw [World.frozen?_setCells]; exact h.free i⟩
  by_cases hjk : j = k
  · subst hjk
    rw [if_pos rfl, World.cell?_setCells_in g e.cells (j * 7) W (fun i hi => (h.there hk i hi).1) i hi]
    exact (List.getElem?_eq_getElem _).symm
  · rw [if_neg hjk, World.cell?_setCells_out g e.cells (k * 7) W _ (fun _ _ => by
      show j * 7 + i < k * 7 ∨ k * 7 + e.cells.length ≤ j * 7 + i
      rw [ev_cells_len]
      omega)]
    exact h.cell j hj i hi
theorem EvRow.congr {G : Nat → Ev} (h : EvRow W g N F) (hG : ∀ j, j < N → F j = G j) : EvRow W g N G :=
  ⟨h.lt, fun j hj i hi => by rw [← hG j hj]; exact h.cell j hj i hi, h.free⟩
end
theorem Only.setCells {S : Nat → Prop} {a w : World} {g : Nat} (hp : S g ∨ a.heap.size ≤ g) : ∀ (vs : List Value) (o : Nat), Only S a w → Only S a (w.setCells g o vs)
  | [], _, h => h
  | v :: r, o, h => by
    show Only S a ((w.setCell ⟨g, o, none⟩ v).setCells g (o + 1) r)
    exact Only.setCells hp r (o + 1) (h.setCell (p := ⟨g, o, none⟩) hp v)
/-- What is made: so many events of nothing. -/
theorem made_events (n : Nat) (W : World) (g : Nat) (h : W.heap[g]? = some (.cells (madeCells ev0.cells.toArray (n * 7)) 48 (0, 0))) : EvRow W g n (fun _ => ev0) := by
  refine ⟨(Array.getElem?_eq_some_iff.1 h).1, fun j hj i hi => ?_, fun i => by simp [World.frozen?, h]⟩
  rw [cell_of_row W g (j * 7 + i) _ _ _ h]
  have hlt : j * 7 + i < n * 7 := by omega
  have hm : (j * 7 + i) % ev0.cells.toArray.size = i := by
    show (j * 7 + i) % 7 = i
    omega
  have hi7 : i < ev0.cells.length := hi
  simp only [madeCells, Array.getElem?_map, Array.getElem?_range, if_pos hlt, Option.map_some, hm]
  rw [List.getElem?_eq_getElem hi7, getElem!_pos ev0.cells.toArray i (by simpa using hi7)]
  simp
def lentE (e : Ev) (g : Nat) : Ev := { e with a := some ⟨g, 0, none⟩, cap := e.data.length + 2 }
def markE (x : Int) : Ev := { ev0 with kind := x }
/-- The first k events are lent. -/
structure LentTo (W : World) (gx : Nat) (l : List Ev) (k : Nat) (gs : Nat → Nat) : Prop where
  blk : ∀ j, j < k → Blk W (gs j) 5 (BC ((l.getD j ev0).data ++ [71, 72]))
  low : ∀ j, j < k → gx < gs j
  inc : ∀ i j, i < j → j < k → gs i < gs j
theorem LentTo.only {W W' : World} {gx : Nat} {l : List Ev} {k : Nat} {gs : Nat → Nat} {S : Nat → Prop} (h : LentTo W gx l k gs) (ho : Only S W W') (hS : ∀ j, j < k → ¬ S (gs j)) : LentTo W' gx l k gs :=
  ⟨fun j hj => ho.blk (h.blk j hj) (hS j hj), h.low, h.inc⟩
theorem info_evt : (Try.prog.info? 48).map (fun i => (i.zero, i.size, i.bytes)) = some (some ev0.v, 7, 72) := by kernel_rfl
set_option maxHeartbeats 1600000 in
set_option maxRecDepth 100000 in
theorem lent_any (v : Value) (l : List Ev) (w : World) (hv : Evs w v l) (hd : ∀ j, j < l.length → (l.getD j ev0).data.length ≤ 140737488355328) (hn : l.length ≤ 1000000000000) :
    Calls Try.prog 17 #[v] w fun r w' => ∃ gs : Nat → Nat, r = .returned (.slice (some ⟨w.heap.size, 0, none⟩) l.length (l.length + 2)) ∧ LentTo w' w.heap.size l l.length gs ∧
      EvRow w' w.heap.size (l.length + 2) (fun j => if j < l.length then lentE (l.getD j ev0) (gs j) else if j = l.length then markE (-71) else markE (-72)) ∧ Only Nil w w' := by
  obtain ⟨ie, hie, hez, hes, heb⟩ := info_parts info_evt
  have hmk : ∀ u : World, (Instr.makeSlice 27 (.int .i64 ((l.length : Int) + 2)) (.int .i64 ((l.length : Int) + 2))).run Try.prog u =
      .ok (.slice (some ⟨u.heap.size, 0, none⟩) (l.length + 2) (l.length + 2)) (u.alloc (.cells (madeCells ev0.cells.toArray ((l.length + 2) * 7)) 48)) := fun u => by
    have h := run_make (P := Try.prog) u 27 48 ie ev0.v Try.underlying27 hie hez .i64 .i64 ((l.length : Int) + 2) ((l.length : Int) + 2) (by omega) (Int.le_refl _) (by rw [heb]; omega) (by omega)
    have e : ((l.length : Int) + 2).toNat = l.length + 2 := by omega
    rw [e, hes] at h
    exact h
  obtain ⟨A, c, rfl, hc, hrow⟩ := hv
  have HV := Lib.hid (show ∀ W, Only Nil w W → Evs W (.slice A l.length c) l from fun W ho => Evs.nil ⟨A, c, rfl, hc, hrow⟩ ho)
  have HD := Lib.hid hd
  clear hrow hd hc
  go_enter Try.func17, Try.ntmps17
  go_upto_region 3 with fail
  obtain ⟨g, hg⟩ : ∃ b, w.heap.size = b := ⟨_, rfl⟩
  have HO := Lib.hid (show Only Nil w (w.alloc (.cells (madeCells ev0.cells.toArray ((l.length + 2) * 7)) 48)) from (Only.refl _ _).alloc _)
  have HR := Lib.hid (made_events (l.length + 2) (w.alloc (.cells (madeCells ev0.cells.toArray ((l.length + 2) * 7)) 48)) g (by rw [← hg]; exact heap_alloc_new w _))
  have HG := Lib.hid hg
  rw [hg]
  clear hmk
  refine wp_gen (fun W => Only Nil w W ∧ EvRow W g (l.length + 2) (fun _ => ev0)) ⟨HO.out, HR.out⟩ ?_
  clear HO HR hg
  intro w1 h1
  have H1 := Lib.hid h1
  clear h1
  go_upto_region 4 with fail
  go_loopw [5] (fun i wr => ∃ (k : Nat) (gs : Nat → Nat), k ≤ l.length ∧ i = .int .i64 (k : Nat) ∧ Only Nil w wr ∧ LentTo wr g l k gs ∧ EvRow wr g (l.length + 2) (fun j => if j < k then lentE (l.getD j ev0) (gs j) else ev0)) (fun i _ => l.length - (intOf i).toNat)
  case atStart => exact ⟨0, fun _ => 0, Nat.zero_le _, rfl, H1.out.1, ⟨fun j hj => absurd hj (by omega), fun j hj => absurd hj (by omega), fun i j _ hj => absurd hj (by omega)⟩, H1.out.2.congr fun j _ => by rw [if_neg (by omega)]⟩
  case round =>
    obtain ⟨k, gs, hk, rfl, hO, hL, hR⟩ := hrel
    have HO := Lib.hid hO
    have HL := Lib.hid hL
    have HR := Lib.hid hR
    clear hO hL hR H1
    by_cases hlt : k < l.length
    · have g1 : (k : Int) < (l.length : Int) := by omega
      obtain ⟨ga, o, rfl, hcell, hok⟩ := (HV.out _ HO.out).at hlt
      have HRB := Lib.hid (show ∀ W, Only Nil w W → ∀ e, e = l.getD k ev0 → RB W e.d e.data from fun W ho e he => by subst he; exact ((HV.out _ ho).at hlt |>.choose_spec.choose_spec.2.2).rb)
      have hdk := HD.out k hlt
      obtain ⟨e, he⟩ : ∃ e, l.getD k ev0 = e := ⟨_, rfl⟩
      have HE := Lib.hid he
      rw [he] at hcell hdk
      clear he hok
      obtain ⟨kind, time, ip, till, why, len, a, cap, data⟩ := e
      have q0 : wr.cell? ⟨ga, o + k * 7, none⟩ = some (.int .i64 kind) := hcell 0 (by omega)
      have q1 : wr.cell? ⟨ga, o + k * 7 + 1, none⟩ = some (.int .i64 time) := hcell 1 (by omega)
      have q2 : wr.cell? ⟨ga, o + k * 7 + 2, none⟩ = some (.int .u32 ip) := hcell 2 (by omega)
      have q3 : wr.cell? ⟨ga, o + k * 7 + 3, none⟩ = some (.int .i64 till) := hcell 3 (by omega)
      have q4 : wr.cell? ⟨ga, o + k * 7 + 4, none⟩ = some (.int .i64 why) := hcell 4 (by omega)
      have q5 : wr.cell? ⟨ga, o + k * 7 + 5, none⟩ = some (.int .i64 len) := hcell 5 (by omega)
      have q6 : wr.cell? ⟨ga, o + k * 7 + 6, none⟩ = some (.slice a data.length cap) := hcell 6 (by omega)
      clear hcell
      go_upto_region 7 with fail
      obtain ⟨p, hp⟩ : ∃ p, wr.heap.size = p := ⟨_, rfl⟩
      have hgp : g < p := hp ▸ HR.out.lt
      refine wp_gen (fun W => (Only Nil w W ∧ LentTo W g l k gs ∧ EvRow W g (l.length + 2) (fun j => if j < k then lentE (l.getD j ev0) (gs j) else ev0)) ∧ Blk W p 48 [.int .i64 kind, .int .i64 time, .int .u32 ip, .int .i64 till, .int .i64 why, .int .i64 len, .slice a data.length cap] ∧ W.cell? ⟨ga, o + k * 7 + 6, none⟩ = some (.slice a data.length cap) ∧ ∀ j, j < k → gs j < p)
        ⟨⟨HO.out.alloc _, HL.out.only ((Only.refl Nil _).alloc _) fun _ _ => id, HR.out.only ((Only.refl Nil _).alloc _) id⟩, hp ▸ Blk.new wr _ _, ((Only.refl Nil wr).alloc _).cell q6 id, fun j hj => hp ▸ (HL.out.blk j hj).lt⟩ ?_
      rw [hp]
      clear HO HL HR hp q0 q1 q2 q3 q4 q5 q6
      intro w2 h2
      have q6 : w2.cell? ⟨ga, o + k * 7 + 6, none⟩ = some (.slice a data.length cap) := h2.2.2.1
      have c6 : w2.cell? ⟨p, 6, none⟩ = some (.slice a data.length cap) := h2.2.1.cell 6
      have z6 := h2.2.1.free 6
      have H2 := Lib.hid h2
      clear h2
      go_upto_region 8 with (go_at_call 23; refine (lentb_any _ data _ (HRB.out _ H2.out.1.1 _ HE.out.symm) hdk).mono ?_; rintro r w3 ⟨rfl, hB3, ho3⟩; have d6 := (ho3.blk H2.out.2.1 id).cell 6; have y6 := (ho3.blk H2.out.2.1 id).free 6; simp only [List.getElem?_cons_succ, List.getElem?_cons_zero] at d6)
      obtain ⟨q, hq⟩ : ∃ q, w2.heap.size = q := ⟨_, rfl⟩
      have hpq : p < q := hq ▸ H2.out.2.1.lt
      have HX := Lib.hid (show Only Nil w (w3.setCell ⟨p, 6, none⟩ (.slice (some ⟨q, 0, none⟩) data.length (data.length + 2))) ∧ LentTo (w3.setCell ⟨p, 6, none⟩ (.slice (some ⟨q, 0, none⟩) data.length (data.length + 2))) g l (k + 1) (fun j => if j = k then q else gs j) ∧
          EvRow (w3.setCell ⟨p, 6, none⟩ (.slice (some ⟨q, 0, none⟩) data.length (data.length + 2))) g (l.length + 2) (fun j => if j < k then lentE (l.getD j ev0) (gs j) else ev0) ∧ Blk (w3.setCell ⟨p, 6, none⟩ (.slice (some ⟨q, 0, none⟩) data.length (data.length + 2))) p 48 (lentE (l.getD k ev0) q).cells from by
        have hw : w.heap.size ≤ p := by rw [HG.out]; omega
        have ho : Only Nil w w3 := H2.out.1.1.then ho3
        have hone : Only (One p) w3 (w3.setCell ⟨p, 6, none⟩ (.slice (some ⟨q, 0, none⟩) data.length (data.length + 2))) := (Only.refl _ _).setCell (p := ⟨p, 6, none⟩) (.inl (One.self p)) _
        refine ⟨ho.setCell (p := ⟨p, 6, none⟩) (.inr hw) _, ⟨fun j hj => ?_, fun j hj => ?_, fun i j hij hj => ?_⟩, (H2.out.1.2.2.only ho3 id).only hone (by intro h; have : g = p := h; omega), ?_⟩
        · by_cases hjk : j = k
          · subst hjk
            rw [if_pos rfl, HE.out]
            exact hone.blk (hq ▸ hB3) (by intro h; have : q = p := h; omega)
          · rw [if_neg hjk]
            have := H2.out.2.2.2 j (by omega)
            exact hone.blk (ho3.blk (H2.out.1.2.1.blk j (by omega)) id) (by intro h; have : gs j = p := h; omega)
        · by_cases hjk : j = k
          · rw [if_pos hjk]; omega
          · rw [if_neg hjk]; exact H2.out.1.2.1.low j (by omega)
        · by_cases hjk : j = k
          · rw [if_pos hjk, if_neg (by omega)]
            have := H2.out.2.2.2 i (by omega)
            omega
          · rw [if_neg hjk, if_neg (by omega)]; exact H2.out.1.2.1.inc i j hij (by omega)
        · rw [HE.out]
          exact (ho3.blk H2.out.2.1 id).set 6 _)
      rw [hq]
      refine wp_gen (fun W => Only Nil w W ∧ LentTo W g l (k + 1) (fun j => if j = k then q else gs j) ∧ EvRow W g (l.length + 2) (fun j => if j < k then lentE (l.getD j ev0) (gs j) else ev0) ∧ Blk W p 48 (lentE (l.getD k ev0) q).cells) HX.out ?_
      clear HX H2 hB3 ho3 d6 y6 q6 c6 z6 hq hpq
      intro w4 h4
      have b0 : w4.cell? ⟨p, 0, none⟩ = some (.int .i64 kind) := by have := h4.2.2.2.cell 0; rw [HE.out] at this; exact this
      have b1 : w4.cell? ⟨p, 1, none⟩ = some (.int .i64 time) := by have := h4.2.2.2.cell 1; rw [HE.out] at this; exact this
      have b2 : w4.cell? ⟨p, 2, none⟩ = some (.int .u32 ip) := by have := h4.2.2.2.cell 2; rw [HE.out] at this; exact this
      have b3 : w4.cell? ⟨p, 3, none⟩ = some (.int .i64 till) := by have := h4.2.2.2.cell 3; rw [HE.out] at this; exact this
      have b4 : w4.cell? ⟨p, 4, none⟩ = some (.int .i64 why) := by have := h4.2.2.2.cell 4; rw [HE.out] at this; exact this
      have b5 : w4.cell? ⟨p, 5, none⟩ = some (.int .i64 len) := by have := h4.2.2.2.cell 5; rw [HE.out] at this; exact this
      have b6 : w4.cell? ⟨p, 6, none⟩ = some (.slice (some ⟨q, 0, none⟩) data.length (data.length + 2)) := by have := h4.2.2.2.cell 6; rw [HE.out] at this; exact this
      have H4 := Lib.hid h4
      clear h4
      have hk2 : k < l.length + 2 := by omega
      have hci : (Try.prog.info? 48).map (·.size) = some 7 := by kernel_rfl
      have HT := Lib.hid (And.intro (show w4.there g (k * 7) (lentE ⟨kind, time, ip, till, why, len, a, cap, data⟩ q).cells.toArray.size from H4.out.2.2.1.there hk2) (show (Try.prog.info? 48).map (·.size) = some (lentE ⟨kind, time, ip, till, why, len, a, cap, data⟩ q).cells.toArray.size from hci))
      clear hci
      have h1c : (lentE ⟨kind, time, ip, till, why, len, a, cap, data⟩ q).cells.toArray.all (·.oneCell') = true := all_oneCell_toArray (ev_cells_one _)
      have H1C := Lib.hid h1c
      clear h1c
      go_wp2_with (first
        | ((with_reducible show wpList _ _ _ (Oper.mk _ (.store _ _ _) _ _ _ _ :: _) _ _); refine wpList_store_mid (by rfl) 48 (.tmp 31) (.tmp 30) (by rfl) g (k * 7) (lentE ⟨kind, time, ip, till, why, len, a, cap, data⟩ q).cells.toArray (by rfl) (by rfl) HT.out.1 HT.out.2 H1C.out ?_))
      have HF := Lib.hid (show Only Nil w (w4.setCells g (k * 7) (lentE ⟨kind, time, ip, till, why, len, a, cap, data⟩ q).cells) ∧ LentTo (w4.setCells g (k * 7) (lentE ⟨kind, time, ip, till, why, len, a, cap, data⟩ q).cells) g l (k + 1) (fun j => if j = k then q else gs j) ∧
          EvRow (w4.setCells g (k * 7) (lentE ⟨kind, time, ip, till, why, len, a, cap, data⟩ q).cells) g (l.length + 2) (fun j => if j < k + 1 then lentE (l.getD j ev0) (if j = k then q else gs j) else ev0) from by
        refine ⟨Only.setCells (.inr (by rw [HG.out]; exact Nat.le_refl _)) _ _ H4.out.1, H4.out.2.1.only (Only.setCells (.inl (One.self g)) _ _ (Only.refl _ _)) (fun j hj h => ?_), (H4.out.2.2.1.set hk2 _).congr fun j hj => ?_⟩
        · have h1 := H4.out.2.1.low j hj
          have h2 : (if j = k then q else gs j) = g := h
          omega
        · by_cases hjk : j = k
          · rw [if_pos hjk, if_pos (by omega), if_pos hjk, hjk, HE.out]
          · rw [if_neg hjk, if_neg hjk]
            by_cases hjl : j < k
            · rw [if_pos hjl, if_pos (by omega)]
            · rw [if_neg hjl, if_neg (by omega)])
      go_roundw
      case rel => exact ⟨k + 1, _, by omega, by go_num, HF.out⟩
      case measure => simp [intOf]; omega
    · obtain rfl : k = l.length := by omega
      have ht0 : wr.there g (l.length * 7) 7 := HR.out.there (by omega)
      have hci : (Try.prog.info? 48).map (·.size) = some 7 := by kernel_rfl
      have HT := Lib.hid (And.intro ht0 (show (Try.prog.info? 48).map (·.size) = some 7 from hci))
      have HR1 := Lib.hid (HR.out.set (show l.length < l.length + 2 by omega) (markE (-71)))
      have HT1 := Lib.hid (HR1.out.there (show l.length + 1 < l.length + 2 by omega))
      have HR2 := Lib.hid (HR1.out.set (show l.length + 1 < l.length + 2 by omega) (markE (-72)))
      clear ht0 hci
      go_wp2_with (first
        | ((with_reducible show wpList _ _ _ (Oper.mk _ (.store _ (.tmp 35) _) _ _ _ _ :: _) _ _); refine wpList_store_mid (by rfl) 48 (.tmp 35) (.tmp 34) (by rfl) g (l.length * 7) (markE (-71)).cells.toArray (by rfl) (by rfl) HT.out.1 HT.out.2 (all_oneCell_toArray (ev_cells_one _)) ?_)
        | ((with_reducible show wpList _ _ _ (Oper.mk _ (.store _ (.tmp 40) _) _ _ _ _ :: _) _ _); refine wpList_store_mid (by rfl) 48 (.tmp 40) (.tmp 39) (by rfl) g ((l.length + 1) * 7) (markE (-72)).cells.toArray (by rfl) (by rfl) HT1.out HT.out.2 (all_oneCell_toArray (ev_cells_one _)) ?_))
      have hO1 : Only Nil w (wr.setCells g (l.length * 7) (markE (-71)).cells) := Only.setCells (.inr (by rw [HG.out]; exact Nat.le_refl _)) _ _ HO.out
      have hO2 : Only Nil w ((wr.setCells g (l.length * 7) (markE (-71)).cells).setCells g ((l.length + 1) * 7) (markE (-72)).cells) := Only.setCells (.inr (by rw [HG.out]; exact Nat.le_refl _)) _ _ hO1
      have hoo : Only (One g) wr ((wr.setCells g (l.length * 7) (markE (-71)).cells).setCells g ((l.length + 1) * 7) (markE (-72)).cells) := Only.setCells (.inl (One.self g)) _ _ (Only.setCells (.inl (One.self g)) _ _ (Only.refl _ _))
      have hfin : EvRow ((wr.setCells g (l.length * 7) (markE (-71)).cells).setCells g ((l.length + 1) * 7) (markE (-72)).cells) g (l.length + 2) (fun j => if j < l.length then lentE (l.getD j ev0) (gs j) else if j = l.length then markE (-71) else markE (-72)) := HR2.out.congr fun j hj => by
        by_cases hj1 : j < l.length
        · rw [if_neg (by omega), if_neg (by omega), if_pos hj1, if_pos hj1]
        · by_cases hj2 : j = l.length
          · rw [if_neg (by omega), if_pos hj2, if_neg hj1, if_pos hj2]
          · rw [if_pos (by omega), if_neg hj1, if_neg hj2]
      go_ret
      exact ⟨gs, by rw [HG.out]; rfl, by rw [HG.out]; exact HL.out.only hoo fun j hj h => by have h1 := HL.out.low j hj; have h2 : gs j = g := h; omega, by rw [HG.out]; exact hfin, hO2⟩
end Go.Proofs.Ythoaeolohnalnaa
