/-
  The walk of Owned.
-/
import Derived.Test.YtkkjnembjlgiaaaBk3
namespace Go.Proofs.Ytkkjnembjlgiaaa
set_option maxRecDepth 100000
open Go.RowKit

def ls0 : Ls := (.slice none 0 0, [])
section
variable {B : Nat} {w w' W : World} {F : Nat → Prop} {kb : Nat} {ls : List Ls} {vl vw : Value}
theorem BookAt.elem (h : BookAt B w F kb vl vw ls) {k : Nat} (hk : k < ls.length) (ho : Only Nil w W) : ∃ g c g' c' A cx, vl = .slice (some ⟨g, 0, none⟩) ls.length c ∧ vw = .slice (some ⟨g', 0, none⟩) ls.length c' ∧ W.cell? ⟨g, k, none⟩ = some (.slice A (ls.getD k ls0).2.length cx) ∧ W.cell? ⟨g', k, none⟩ = some (.string (str (ls.getD k ls0).2)) ∧ (ls.getD k ls0).1 = .slice A (ls.getD k ls0).2.length cx ∧ RB W (.slice A (ls.getD k ls0).2.length cx) (ls.getD k ls0).2 := by
  have h' := h.only ho fun _ _ e => e
  obtain ⟨g, c, e1, _, _, _, hc⟩ := own_form h'.lists (by omega)
  obtain ⟨g', c', e2, _, _, _, hc'⟩ := own_form h'.was (by omega)
  have hx : ls.getD k ls0 ∈ ls := by simp [List.getD, hk]
  have hx2 := h'.each _ hx
  obtain ⟨A, cx, e3⟩ := own_slice1 hx2
  have q0 := hc k hk
  have q1 := hc' k hk
  refine ⟨g, c, g', c', A, cx, e1, e2, ?_, ?_, e3, e3 ▸ hx2.reads'⟩
  · rw [q0, ← e3]
    simp [List.getD, hk]
  · rw [q1]
    simp [strs, List.getD, hk]
def Mine (ls : List Ls) (k j : Nat) : Prop := ∃ x, ls[j]? = some x ∧ x.1.ownBlock = some k
theorem mine_one (h : ls.Pairwise FarL) : ∀ k j j', Mine ls k j → Mine ls k j' → j = j' := by
  intro k j j' ⟨x, hx, h1⟩ ⟨y, hy, h2⟩
  obtain ⟨hj, rfl⟩ := List.getElem?_eq_some_iff.1 hx
  obtain ⟨hj', rfl⟩ := List.getElem?_eq_some_iff.1 hy
  rcases Nat.lt_trichotomy j j' with h3 | h3 | h3
  · exact absurd h2 (List.pairwise_iff_getElem.1 h j j' hj hj' h3 k h1)
  · exact h3
  · exact absurd h1 (List.pairwise_iff_getElem.1 h j' j hj' hj h3 k h2)
theorem BookAt.foot' (h : BookAt B w F kb vl vw ls) {k j : Nat} (hm : Mine ls k j) : F k := by
  obtain ⟨x, hx, hk⟩ := hm
  exact h.foot.2.2.2 x (List.mem_of_getElem? hx) k hk
theorem OwSt.first {n : Nat} {Al Aw : Option Addr} {cl cw : Nat} (h : BookAt B w F kb (.slice Al ls.length cl) (.slice Aw ls.length cw) ls) (hn : ls.length = n) (ho : Only Nil w W) : OwSt B w.heap.size kb (.slice Al n cl) (.slice Aw n cw) ls 0 0 [] (.slice none 0 0) (Mine ls) W := by
  rw [← hn]
  have h' := h.only ho fun _ _ e => e
  exact ⟨h'.blk, h'.lists, ⟨rfl, .inl ⟨rfl, rfl⟩⟩, mine_one h.far, fun j x _ hx => ⟨h'.each x (List.mem_of_getElem? hx), fun k hk => ⟨x, hx, hk⟩⟩, fun j x g hj _ _ => absurd hj (Nat.not_lt_zero _), fun k hk => by cases hk⟩
theorem OwSt.elem {B1 n i : Nat} {Al Aw : Option Addr} {cl cw : Nat} {gs : List Value} {vg : Value} {R : Nat → Nat → Prop} (h : OwSt B B1 kb (.slice Al n cl) (.slice Aw n cw) ls i i gs vg R W) (hn : ls.length = n) (hi : i < n) :
    ∃ g c A cx bs, Value.slice Al n cl = .slice (some ⟨g, 0, none⟩) n c ∧ W.cell? ⟨g, i, none⟩ = some (.slice A bs.length cx) ∧ ls[i]? = some (.slice A bs.length cx, bs) ∧ OwnB B W (.slice A bs.length cx) bs ∧ ∀ k, (Value.slice A bs.length cx).ownBlock = some k → R k i := by
  obtain ⟨g, c, e1, _, _, _, hc⟩ := own_form h.lists (by omega)
  obtain ⟨x, hx⟩ : ∃ x, ls[i]? = some x := ⟨_, List.getElem?_eq_getElem (by omega)⟩
  obtain ⟨v, bs⟩ := x
  obtain ⟨hv, hr⟩ := h.later i _ (Nat.le_refl _) hx
  obtain ⟨A, cx, e3⟩ := own_slice1 hv
  have e4 : v = .slice A bs.length cx := e3
  subst e4
  refine ⟨g, c, A, cx, bs, by rw [e1, hn], ?_, hx, hv, hr⟩
  have q0 := hc i (by omega)
  rw [q0]
  simp [List.getD, hx]
theorem OwnB.put {A : Option Addr} {m cx : Nat} {l : List UInt8} (h : OwnB B W (.slice A m cx) l) {j : Nat} (hl : l.length = m) (hj : j < m) (y : UInt8) :
    ∃ b, A = some ⟨b, 0, none⟩ ∧ W.cell? ⟨b, j, none⟩ = some (.int .u8 (by8 (l.getD j 0))) ∧ W.frozen? ⟨b, j, none⟩ = false ∧ OwnB B (W.setCell ⟨b, j, none⟩ (.int .u8 (by8 y))) (.slice A m cx) (l.set j y) := by
  have h0 : W.ownsRow B 5 1 (.slice A m cx) l.length (BC l) := h
  obtain ⟨g, cap, e1, _, _, _, hc⟩ := own_form h0 (by omega)
  injection e1 with e1 _ e3
  subst e1 e3
  obtain ⟨cs, hb⟩ := blk_of_own h0 (k := g) rfl
  have hq := hc j (by omega)
  refine ⟨g, rfl, ?_, hb.free j, ?_⟩
  · rw [hq]
    simp [BC, List.getD, show j < l.length by omega]
  · unfold OwnB
    rw [List.length_set, ← BC_set]
    refine ⟨by rw [List.length_set]; exact h0.1, ?_⟩
    rcases h0.2 with ⟨h1, _⟩ | ⟨k, c, cur, hv, hB, hg, hc, hm, hs, ht⟩
    · cases h1
    · injection hv with e1 e2 e3
      injection e1 with e1
      injection e1 with e1
      subst e1 e3
      have hb : Blk W g 5 cur.toList := by unfold Blk; simpa using hg
      have hb2 := hb.set j (.int .u8 (by8 y))
      refine .inr ⟨g, cx, (cur.toList.set j (.int .u8 (by8 y))).toArray, by rw [← e2], hB, hb2, hc, hm, by simpa using hs, ?_⟩
      rw [List.take_set, ht]
theorem OwSt.grew {B1 i m q gg cap : Nat} {gs : List Value} {vg g v : Value} {bs : List UInt8} {R : Nat → Nat → Prop} {w1 w2 : World} (h : OwSt B B1 kb vl vw ls (i + 1) i gs vg R W) (hd : Done B W i (v, bs) g q) (hm : bs.length = m) (hr : ∀ k, g.ownBlock = some k → R k i) (h1 : Only Nil W w1)
    (hg : Grew2 w1 w2 B 5 g (m + q) 1 (BC (marks i (m + q))) [.int .u8 (by8 (mk8 i (m + q)))] gg cap) :
    OwSt B B1 kb vl vw ls (i + 1) i gs vg R w2 ∧ Done B w2 i (v, bs) (.slice (some ⟨gg, 0, none⟩) (m + q + 1) cap) (q + 1) ∧ Only (fun k => g.ownBlock = some k) W w2 ∧ (g.ownBlock = some gg ∨ W.heap.size ≤ gg) := by
  subst hm
  obtain ⟨a, b, c⟩ := Done.grew (x := (v, bs)) hd h1 hg
  exact ⟨h.step b (fun k hk _ => hd.blks (.inr hk)) hr, a, b, c⟩
theorem OwSt.nil {B1 lo i : Nat} {gs : List Value} {vg : Value} {R : Nat → Nat → Prop} {w1 w2 : World} (h : OwSt B B1 kb vl vw ls lo i gs vg R w1) (ho : Only Nil w1 w2) : OwSt B B1 kb vl vw ls lo i gs vg R w2 :=
  ⟨ho.blk h.blk id, own_only h.lists ho fun _ _ e => e, own_only h.grown ho fun _ _ e => e, h.one, fun j x hj hx => ⟨own_only (h.later j x hj hx).1 ho fun _ _ e => e, (h.later j x hj hx).2⟩,
    fun j x g hj hx hg => ⟨(h.done j x g hj hx hg).1.keep ho fun _ _ e => e, (h.done j x g hj hx hg).2⟩, h.ne⟩
theorem OwSt.read {B1 n r : Nat} {Al A4 : Option Addr} {cl c4 : Nat} {gs : List Value} {R : Nat → Nat → Prop} (h : OwSt B B1 kb (.slice Al n cl) vw ls n n gs (.slice A4 n c4) R W) (hn : ls.length = n) (hr : r < n) :
    ∃ g c ga ca A cx bs bg cg, Value.slice Al n cl = .slice (some ⟨g, 0, none⟩) n c ∧ Value.slice A4 n c4 = .slice (some ⟨ga, 0, none⟩) n ca ∧ ls[r]? = some (.slice A bs.length cx, bs) ∧ W.cell? ⟨g, r, none⟩ = some (.slice A bs.length cx) ∧ W.cell? ⟨ga, r, none⟩ = some (.slice (some ⟨bg, 0, none⟩) (bs.length + 9) cg) ∧
      (∀ p, p < bs.length + 9 → W.cell? ⟨bg, p, none⟩ = some (.int .u8 (by8 (mk8 r p)))) ∧ ∀ p, p < bs.length → ∃ b, A = some ⟨b, 0, none⟩ ∧ W.cell? ⟨b, p, none⟩ = some (.int .u8 (by8 (mk8 r p))) := by
  obtain ⟨g, c, e1, _, _, _, hc⟩ := own_form h.lists (by omega)
  obtain ⟨ga, ca, e2, _, _, _, hca⟩ := own_form h.grown (by omega)
  have hgl : gs.length = n := by
    have := h.grown.1
    omega
  obtain ⟨x, hx⟩ : ∃ x, ls[r]? = some x := ⟨_, List.getElem?_eq_getElem (by omega)⟩
  obtain ⟨y, hy⟩ : ∃ y, gs[r]? = some y := ⟨_, List.getElem?_eq_getElem (by omega)⟩
  obtain ⟨v, bs⟩ := x
  obtain ⟨hD, _⟩ := h.done r _ y hr hx hy
  have hcell : ∀ {v : Value} {k : Nat}, OwnB B W v (marks r k) → 0 < k → ∃ b c, v = .slice (some ⟨b, 0, none⟩) k c ∧ ∀ p, p < k → W.cell? ⟨b, p, none⟩ = some (.int .u8 (by8 (mk8 r p))) := by
    intro v k hv h0
    unfold OwnB at hv
    rw [marks_length] at hv
    obtain ⟨b, c, e, _, _, _, hc⟩ := own_form hv h0
    refine ⟨b, c, e, fun p hp => ?_⟩
    rw [hc p hp, List.getD, BC_get _ _ (by rw [marks_length]; exact hp), marks_get _ _ _ hp]
    rfl
  obtain ⟨bg, cg, e3, hg⟩ := hcell hD.1 (by omega)
  have hlx : ∃ A cx, v = .slice A bs.length cx ∧ ∀ p, p < bs.length → ∃ b, A = some ⟨b, 0, none⟩ ∧ W.cell? ⟨b, p, none⟩ = some (.int .u8 (by8 (mk8 r p))) := by
    rcases hD.2 with ⟨b, c, e4, e5⟩ | ⟨h2, _⟩
    · refine ⟨_, _, e4, fun p hp => ⟨b, rfl, ?_⟩⟩
      rw [e3] at e5
      injection e5 with e5 _ _
      injection e5 with e5
      injection e5 with e5
      rw [← e5]
      exact hg p (Nat.lt_of_lt_of_le hp (Nat.le_add_right _ _))
    · by_cases h0 : 0 < bs.length
      · obtain ⟨b, c, e4, h4⟩ := hcell h2 h0
        exact ⟨_, _, e4, fun p hp => ⟨b, rfl, h4 p hp⟩⟩
      · obtain ⟨A, cx, e4⟩ := own_slice1 h2
        rw [marks_length] at e4
        exact ⟨A, cx, e4, fun p hp => absurd hp (by omega)⟩
  obtain ⟨A, cx, e4, hl⟩ := hlx
  subst e4 e3
  refine ⟨g, c, ga, ca, A, cx, bs, bg, cg, by rw [e1, hn], e2, hx, ?_, ?_, hg, hl⟩
  · rw [hc r (by omega)]
    simp [List.getD, hx]
  · rw [hca r hr]
    simp [List.getD, hy]
theorem cell_nil {k p : Nat} {v : Value} {w1 w2 : World} (ho : Only Nil w1 w2) (h : w1.cell? ⟨k, p, none⟩ = some v) : w2.cell? ⟨k, p, none⟩ = some v := by
  by_cases hk : k < w1.heap.size
  · rw [World.cell?_of_block (w := w1) (ho.block k hk id)]
    exact h
  · have : w1.heap[k]? = none := by simp; omega
    simp [World.cell?, this] at h
set_option maxHeartbeats 1600000 in
theorem owned_any (h : IsBook B w F kb ls) (hn : ls.length ≤ 100000000000) (hb : ∀ x ∈ ls, x.2.length ≤ 100000000000) :
    Calls Try.prog 29 #[.pointer (some ⟨kb, 0, none⟩)] w fun e w' => e = .returned (.bool true) ∧ Only F w w' := by
  obtain ⟨vl, vw, hA⟩ := h.at'
  obtain ⟨Al, cl, rfl⟩ := own_slice1 hA.lists
  obtain ⟨Aw, cw, rfl⟩ := own_slice1 hA.was
  obtain ⟨n, hlen⟩ : ∃ n, ls.length = n := ⟨_, rfl⟩
  have HC := Lib.hid (show ∀ W, Only Nil w W → Blk W kb 34 [.slice Al n cl, .slice Aw n cw] from fun W ho => by rw [← hlen]; exact ho.blk hA.blk id)
  have HH := Lib.hid h
  have HA := Lib.hid hA
  have HB := Lib.hid hb
  have HN := Lib.hid hlen
  rw [hlen] at hn
  clear h hA hb hlen
  go_enter Try.func29, Try.ntmps29
  go_wp2
  go_loopw [3] (fun i wr => ∃ k : Nat, k ≤ n ∧ i = .int .i64 k ∧ Only Nil w wr) (fun i _ => n - (intOf i).toNat)
  case atStart => exact ⟨0, Nat.zero_le _, rfl, Only.refl _ _⟩
  case round =>
    obtain ⟨k, hk, rfl, ho⟩ := hrel
    have HO := Lib.hid ho
    have c0 : wr.cell? ⟨kb, 0, none⟩ = some (.slice Al n cl) := (HC.out wr ho).cell 0
    have c1 : wr.cell? ⟨kb, 1, none⟩ = some (.slice Aw n cw) := (HC.out wr ho).cell 1
    by_cases hlt : k < n
    · obtain ⟨g, c, g', c', A, cx, e1, e2, q0, q1, _, hr⟩ := HA.out.elem (W := wr) (k := k) (by rw [HN.out]; exact hlt) ho
      injection e1 with e1 _ e1c
      injection e2 with e2 _ e2c
      subst e1 e1c e2 e2c
      have s0 : ∀ j, (convert 39 9 (.slice A (ls.getD k ls0).2.length cx)).run Try.prog (wr.drewN j) = .ok (.string (str (ls.getD k ls0).2)) (wr.drewN j) := fun j => str_of (P := Try.prog) (src := 39) (e := 5) (dst := 9) Try.underlying39 Try.underlying5 Try.underlying9 (hr.drewN j)
      obtain ⟨x, hx⟩ : ∃ x, (ls.getD k ls0).2 = x := ⟨_, rfl⟩
      rw [hx] at q0 q1 s0
      have g1 : (k : Int) < (n : Int) := by omega
      have hs2 : ((str x).toList == (str x).toList) = true := by simp
      clear ho hr hx
      go_upto_region 4 with fail
      go_quiet (fail)
      go_wp2
      go_roundw
      case rel => exact ⟨k + 1, by omega, by go_num, HO.out.drewN nq⟩
      case measure => simp only [intOf]; omega
    · have hkn : k = n := by omega
      have g1 : ¬ (k : Int) < (n : Int) := by omega
      have HS := Lib.hid (OwSt.first HA.out HN.out ho)
      clear ho c1
      go_wp2
      go_loopw [4, 5] (fun vg iv W => ∃ (i : Nat) (gs : List Value) (R : Nat → Nat → Prop), i ≤ n ∧ iv = .int .i64 i ∧ OwSt B w.heap.size kb (.slice Al n cl) (.slice Aw n cw) ls i i gs vg R W ∧ Only F w W ∧ ∀ k j, R k j → F k ∨ w.heap.size ≤ k) (fun _ iv _ => n - (intOf iv).toNat)
      case atStart => exact ⟨0, [], _, Nat.zero_le _, rfl, HS.out, HO.out.mono fun _ _ e => e.elim, fun k j hR => .inl (HA.out.foot' hR)⟩
      case round =>
        obtain ⟨i, gs, R, hi, rfl, hS, hO, hR⟩ := hrel
        have c0 : wr.cell? ⟨kb, 0, none⟩ = some (.slice Al n cl) := hS.blk.cell 0
        obtain ⟨A4, c4, hu4⟩ := own_slice1 hS.grown
        subst hu4
        have HO2 := Lib.hid hO
        have HR := Lib.hid hR
        by_cases hlt2 : i < n
        · obtain ⟨g, c, A, cx, bs, e1, q0, hx, hv, hvr⟩ := hS.elem HN.out hlt2
          injection e1 with e1 _ e1c
          subst e1 e1c
          have hm2 : bs.length ≤ 100000000000 := HB.out _ (List.mem_of_getElem? hx)
          have HV := Lib.hid (show OwnB B wr (.slice A bs.length cx) (marks i 0 ++ bs.drop 0) from hv)
          obtain ⟨m, hm⟩ : ∃ m, bs.length = m := ⟨_, rfl⟩
          have g1' : (i : Int) < (n : Int) := by omega
          have HM := Lib.hid hm
          have HX := Lib.hid hx
          have HS2 := Lib.hid ((hS.mono (Nat.le_succ i)).next (m := i))
          have HVR := Lib.hid (show ∀ k, (Value.slice A bs.length cx).ownBlock = some k → Next R wr.heap.size i k i from fun k hk => .inl ⟨by obtain ⟨cs, hb⟩ := hv.lt hk; exact hb.lt, hvr k hk⟩)
          have HR2 := Lib.hid (show ∀ k j, Next R wr.heap.size i k j → F k ∨ w.heap.size ≤ k from fun k j hk => hk.elim (fun h => hR k j h.2) fun h => .inr (Nat.le_trans hO.size h.1))
          rw [hm] at q0 hm2 HV HVR HX
          clear hS hO hR hm hx hv hvr HS
          have HNEW := Lib.hid (show ∀ k, wr.heap.size ≤ k → Next R wr.heap.size i k i from fun k hk => .inr ⟨hk, rfl⟩)
          obtain ⟨R2, hR2⟩ : ∃ x, Next R wr.heap.size i = x := ⟨_, rfl⟩
          rw [hR2] at HVR HR2 HS2 HNEW
          obtain ⟨z1, hz1⟩ : ∃ x, wr.heap.size = x := ⟨_, rfl⟩
          rw [hz1] at HNEW
          clear hR2
          go_wp2
          go_loopw [7] (fun nv W => ∃ j : Nat, j ≤ m ∧ nv = .int .i64 j ∧ OwSt B w.heap.size kb (.slice (some ⟨g, 0, none⟩) n cl) (.slice Aw n cw) ls (i + 1) i gs (.slice A4 i c4) R2 W ∧ OwnB B W (.slice A m cx) (marks i j ++ bs.drop j) ∧ Only F w W ∧ z1 ≤ W.heap.size) (fun nv _ => m - (intOf nv).toNat)
          case atStart => exact ⟨0, Nat.zero_le _, rfl, HS2.out, HV.out, HO2.out, Nat.le_of_eq hz1.symm⟩
          case round =>
            obtain ⟨j, hj, rfl, hS, hv, hO, hsz⟩ := hrel
            by_cases hjm : j < m
            · have g2 : (j : Int) < (m : Int) := by omega
              obtain ⟨b, rfl, q1, q2, hput⟩ := hv.put (j := j) (by rw [List.length_append, marks_length, List.length_drop, HM.out]; omega) (by omega) (mk8 i j)
              have HP := Lib.hid (OwSt.step hS ((Only.refl (One b) wr).setCell (p := ⟨b, j, none⟩) (.inl (One.self b)) (.int .u8 (by8 (mk8 i j)))) (fun k hk _ => by rw [show k = b from hk]; exact hv.lt rfl) (fun k hk => by rw [show k = b from hk]; exact HVR.out b rfl))
              have HPV := Lib.hid (show OwnB B _ _ _ from (marks_put i j bs (by rw [HM.out]; exact hjm)) ▸ hput)
              clear hS hv hput
              have hmk := mark_any i j wr (by omega) (by omega)
              go_wp2_with (go_at_call 39; refine hmk.mono ?_; rintro e w3 ⟨rfl, rfl⟩)
              go_roundw
              case rel => exact ⟨j + 1, by omega, by go_num, HP.out, HPV.out, hO.setCell (p := ⟨b, j, none⟩) (HR2.out b i (HVR.out b rfl)) _, Nat.le_trans hsz ((Only.refl (One b) _).setCell (p := ⟨b, j, none⟩) (.inl (One.self b)) _).size⟩
              case measure => simp only [intOf]; omega
            · have hjm2 : j = m := by omega
              subst hjm2
              have g2 : ¬ (j : Int) < (j : Int) := by omega
              have HS3 := Lib.hid hS
              have HD3 := Lib.hid (show Done B wr i (.slice A j cx, bs) (.slice A j cx) 0 from Done.zero (x := (.slice A j cx, bs)) (by
                have e : marks i j ++ bs.drop j = marks i bs.length := by
                  rw [← HM.out]
                  exact marks_full i bs
                exact e ▸ hv))
              have HO3 := Lib.hid hO
              clear hS hv hO
              go_wp2
              go_loopw [8, 9] (fun gv nv W => ∃ (q : Nat) (Ag : Option Addr) (cg : Nat), q ≤ 9 ∧ nv = .int .i64 q ∧ gv = .slice Ag (j + q) cg ∧ OwSt B w.heap.size kb (.slice (some ⟨g, 0, none⟩) n cl) (.slice Aw n cw) ls (i + 1) i gs (.slice A4 i c4) R2 W ∧ Done B W i (.slice A j cx, bs) gv q ∧ Only F w W ∧ (∀ k, gv.ownBlock = some k → R2 k i) ∧ z1 ≤ W.heap.size) (fun _ nv _ => 9 - (intOf nv).toNat)
              case atStart => exact ⟨0, A, cx, by omega, rfl, rfl, HS3.out, HD3.out, HO3.out, HVR.out, hsz⟩
              case round =>
                obtain ⟨q, Ag, cg, hq, rfl, rfl, hS, hD, hO, hgr, hsz⟩ := hrel
                by_cases hq9 : q < 9
                · have g3 : (q : Int) < 9 := by omega
                  have hmk : Calls Try.prog 39 #[.int .i64 (i : Int), .int .i64 ((j : Int) + (q : Int))] wr fun e w' => e = .returned (.int .u8 (by8 (mk8 i (j + q)))) ∧ w' = wr := by
                    have := mark_any i (j + q) wr (by omega) (by omega)
                    rwa [Int.natCast_add] at this
                  have g4 : (j : Int) + (q : Int) ≤ 100000000010 := by omega
                  obtain ⟨ib, hib, hbz, hbs, hbb⟩ := info_parts info_byte
                  have hrow : wr.ownsRow B 5 1 (.slice Ag (j + q) cg) (j + q) (BC (marks i (j + q))) := by
                    have h8 := hD.1
                    unfold OwnB at h8
                    rw [marks_length] at h8
                    rw [← HM.out]
                    rw [← HM.out] at h8
                    exact h8
                  have HSX := Lib.hid hS
                  have HDX := Lib.hid hD
                  have HOX := Lib.hid hO
                  have HGX := Lib.hid hgr
                  have hBw : B ≤ wr.heap.size := Nat.le_trans HH.out.base hO.size
                  clear hS hD hO hgr
                  go_wp2_with (first
                    | (go_at_call 39; refine hmk.mono ?_; rintro e w3 ⟨rfl, rfl⟩)
                    | ((with_reducible show wpList _ _ _ (Oper.mk _ (.call { callee := .builtin .append, args := _, argTypes := _ }) _ _ _ _ :: _) _ _); refine wpList_append_row2 rfl (.tmp 79) (.tmp 81) 39 rfl B 5 ib _ 1 Try.underlying39 hib hbz hbs hbb rfl (.slice Ag (j + q) cg) (j + q) (BC (marks i (j + q))) rfl (own_only hrow ((Only.refl Nil _).alloc _) fun _ _ e => e) _ 1 1 [.int .u8 (by8 (mk8 i (j + q)))] rfl rfl (news_block (Blk.new _ _ _)) (by intro u hu; rw [List.mem_singleton.1 hu]; rfl) (by omega) (by unfold maxLen; omega) (by omega) (by simp; omega) ?_; intro g7 cap7 w7 hg7; have HGR := Lib.hid hg7; clear hg7))
                  have HE := Lib.hid (OwSt.grew HSX.out HDX.out HM.out HGX.out ((Only.refl Nil _).alloc _) HGR.out)
                  go_roundw
                  case rel => exact ⟨q + 1, some ⟨g7, 0, none⟩, cap7, by omega, by go_num, rfl, HE.out.1, HE.out.2.1, HOX.out.trans HE.out.2.2.1 fun k hk => HR2.out k i (HGX.out k hk), fun k hk => by
                    obtain rfl : g7 = k := Option.some.inj hk
                    rcases HE.out.2.2.2 with h | h
                    · exact HGX.out _ h
                    · exact HNEW.out _ (Nat.le_trans hsz h), Nat.le_trans hsz HE.out.2.2.1.size⟩
                  case measure => simp only [intOf]; omega
                · have hq9' : q = 9 := by omega
                  subst hq9'
                  have HSX := Lib.hid hS
                  have HDX := Lib.hid hD
                  have HOX := Lib.hid hO
                  have HGX := Lib.hid hgr
                  obtain ⟨ir, hir, hrz, hrs, hrb⟩ := info_parts info_rowB
                  have hBw : w.heap.size ≤ wr.heap.size := hO.size
                  clear hS hD hO hgr
                  go_wp2_with (((with_reducible show wpList _ _ _ (Oper.mk _ (.call { callee := .builtin .append, args := _, argTypes := _ }) _ _ _ _ :: _) _ _); refine wpList_append_row rfl (.tmp 83) (.tmp 85) 31 rfl w.heap.size 39 ir _ 24 Try.underlying31 hir hrz hrs hrb rfl (.slice A4 i c4) i gs rfl (own_only HSX.out.grown ((Only.refl Nil _).alloc _) fun _ _ e => e) _ 1 1 [.slice Ag (j + 9) cg] rfl rfl (news_block (Blk.new _ _ _)) (by intro u hu; rw [List.mem_singleton.1 hu]; rfl) (by omega) (by unfold maxLen; omega) (by omega) (by simp; omega) ?_; intro g8 cap8 w8 hg8; have HGR := Lib.hid hg8; clear hg8))
                  have HE := Lib.hid (OwSt.push HSX.out HX.out (g := .slice Ag (j + 9) cg) (by
                    have := HDX.out
                    exact this) (fun k hk => hk.elim (fun h => HVR.out k h) fun h => HGX.out k h) ((Only.refl Nil _).alloc _) HGR.out)
                  go_roundw
                  case rel => exact ⟨i + 1, gs ++ [.slice Ag (j + 9) cg], R2, by omega, by go_num, HE.out.1, HOX.out.trans HE.out.2 fun k hk => .inr (own_block HSX.out.grown k hk).1, HR2.out⟩
                  case measure => simp only [intOf]; omega
        · have hin : i = n := by omega
          subst hin
          have g2 : ¬ (i : Int) < (i : Int) := by omega
          have HS3 := Lib.hid hS
          clear hS hO hR
          go_wp2
          go_loopw [11] (fun rv W => ∃ r : Nat, r ≤ i ∧ rv = .int .i64 r ∧ Only Nil wr W) (fun rv _ => i - (intOf rv).toNat)
          case atStart => exact ⟨0, Nat.zero_le _, rfl, Only.refl _ _⟩
          case round =>
            obtain ⟨r, hr, rfl, ho5⟩ := hrel
            have hS5 := HS3.out.nil ho5
            have c0 : wr.cell? ⟨kb, 0, none⟩ = some (.slice Al i cl) := hS5.blk.cell 0
            have HO5 := Lib.hid ho5
            by_cases hri : r < i
            · obtain ⟨g, c, ga, ca, A, cx, bs, bg, cg, e1, e2, hx, q0, q1, hg, hl⟩ := hS5.read HN.out hri
              injection e1 with e1 _ e1c
              injection e2 with e2 _ e2c
              subst e1 e1c e2 e2c
              have hm2 : bs.length ≤ 100000000000 := HB.out (.slice A bs.length cx, bs) (List.mem_of_getElem? hx)
              obtain ⟨m, hm⟩ : ∃ m, bs.length = m := ⟨_, rfl⟩
              rw [hm] at hx q0 q1 hg hl hm2
              have HG5 := Lib.hid hg
              have HL5 := Lib.hid hl
              have g3 : (r : Int) < (i : Int) := by omega
              clear ho5 hS5 hx hg hl
              go_wp2
              go_loopw [13] (fun pv W => ∃ p : Nat, p ≤ m + 9 ∧ pv = .int .i64 p ∧ Only Nil wr W) (fun pv _ => m + 9 - (intOf pv).toNat)
              case atStart => exact ⟨0, Nat.zero_le _, rfl, Only.refl _ _⟩
              case round =>
                obtain ⟨p, hp, rfl, ho6⟩ := hrel
                have q1' := cell_nil ho6 q1
                have HO6 := Lib.hid ho6
                by_cases hpm : p < m + 9
                · have g4 : (p : Int) < (m : Int) + 9 := by omega
                  have q2 := cell_nil ho6 (HG5.out p hpm)
                  have hmk := mark_any r p wr (by omega) (by omega)
                  by_cases hpl : p < m
                  · obtain ⟨b, rfl, q3⟩ := HL5.out p hpl
                    have q3' := cell_nil ho6 q3
                    have g5 : (p : Int) < (m : Int) := by omega
                    clear ho6 q3
                    go_wp2_with (go_at_call 39; refine hmk.mono ?_; rintro e w3 ⟨rfl, rfl⟩)
                    go_roundw
                    case rel => exact ⟨p + 1, by omega, by go_num, HO6.out⟩
                    case measure => simp only [intOf]; omega
                  · have g5 : ¬ (p : Int) < (m : Int) := by omega
                    clear ho6
                    go_wp2_with (go_at_call 39; refine hmk.mono ?_; rintro e w3 ⟨rfl, rfl⟩)
                    go_roundw
                    case rel => exact ⟨p + 1, by omega, by go_num, HO6.out⟩
                    case measure => simp only [intOf]; omega
                · have hpm2 : p = m + 9 := by omega
                  have g4 : ¬ (p : Int) < (m : Int) + 9 := by omega
                  clear ho6
                  go_wp2
                  go_roundw
                  case rel => exact ⟨r + 1, by omega, by go_num, HO5.out.trans HO6.out fun _ h => h.elim⟩
                  case measure => simp only [intOf]; omega
            · have hri2 : r = i := by omega
              subst hri2
              clear ho5 hS5
              go_wp2
              go_ret
              exact ⟨rfl, HO2.out.trans HO5.out fun _ h => h.elim⟩
end
end Go.Proofs.Ytkkjnembjlgiaaa
