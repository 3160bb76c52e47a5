/-
  WirePlays: stands (3): what its walk needs: Same where it draws, how the lists are read, the first of the second state.
-/
import Derived.Test.YtkkjnembjlgiaaaVp
namespace Go.Proofs.Ytkkjnembjlgiaaa
set_option maxRecDepth 100000
open Go.RowKit

set_option maxHeartbeats 1600000 in
theorem same_drew (va vb : Value) (vsa vsb : List Value) (pa : List (List UInt8)) (w : World) (ha : Parts w va vsa pa) (hb : Parts w vb vsb pa) (hsz : pa.length ≤ 1000000000000000) :
    Calls Try.prog 18 #[va, vb] w fun e w' => e = .returned (.bool true) ∧ ∃ m, w' = w.drewN m := by
  have HPA := Lib.hid (show ∀ m, Parts (w.drewN m) va vsa pa from fun m => ha.only ((Only.refl Nil w).drewN m))
  have HPB := Lib.hid (show ∀ m, Parts (w.drewN m) vb vsb pa from fun m => hb.only ((Only.refl Nil w).drewN m))
  obtain ⟨A, ca, rfl, _⟩ := ha.at'
  obtain ⟨A', cb, rfl, _⟩ := hb.at'
  clear ha hb
  go_enter Try.func18, Try.ntmps18
  obtain ⟨n, hn⟩ : ∃ n, pa.length = n := ⟨_, rfl⟩
  have HN := Lib.hid hn
  rw [hn] at hsz ⊢
  clear hn
  go_wp2
  go_loopw [5] (fun i wr => ∃ k : Nat, k ≤ n ∧ i = .int .i64 k ∧ ∃ m, wr = w.drewN m) (fun i _ => n - (intOf i).toNat)
  case atStart => exact ⟨0, Nat.zero_le _, rfl, 0, rfl⟩
  case round =>
    obtain ⟨k, hk, rfl, mm, hwr⟩ := hrel
    have HW := Lib.hid hwr
    by_cases hlt : k < n
    · have h1 := HPA.out mm
      have h2 := HPB.out mm
      rw [← hwr] at h1 h2
      obtain ⟨A0, c0, e0, hat⟩ := h1.at'
      obtain ⟨A1, c1, e1, hbt⟩ := h2.at'
      injection e0 with e0
      injection e1 with e1
      subst e0 e1
      obtain ⟨ga, oa, rfl, q0, Ax, cx, ex, hrx⟩ := hat k (by rw [HN.out]; exact hlt)
      obtain ⟨gb, ob, rfl, q1, Ay, cy, ey, hry⟩ := hbt k (by rw [HN.out]; exact hlt)
      rw [ex] at q0
      rw [ey] at q1
      have s0 : ∀ j, (convert 39 9 (.slice Ax (pa.getD k []).length cx)).run Try.prog (wr.drewN j) = .ok (.string (str (pa.getD k []))) (wr.drewN j) := fun j => str_of (P := Try.prog) (src := 39) (e := 5) (dst := 9) Try.underlying39 Try.underlying5 Try.underlying9 (hrx.drewN j)
      have s1 : ∀ j, (convert 39 9 (.slice Ay (pa.getD k []).length cy)).run Try.prog (wr.drewN j) = .ok (.string (str (pa.getD k []))) (wr.drewN j) := fun j => str_of (P := Try.prog) (src := 39) (e := 5) (dst := 9) Try.underlying39 Try.underlying5 Try.underlying9 (hry.drewN j)
      obtain ⟨x, hx⟩ : ∃ x, pa.getD k [] = x := ⟨_, rfl⟩
      rw [hx] at q0 s0 q1 s1
      have g1 : (k : Int) < (n : Int) := by omega
      have hs2 : ((str x).toList == (str x).toList) = true := by simp
      clear hat hbt ex ey hrx hry hx h1 h2 hwr
      go_upto_region 6 with fail
      go_quiet (fail)
      go_wp2
      go_roundw
      case rel => exact ⟨k + 1, by omega, by go_num, mm + nq, by rw [HW.out, World.drewN_drewN]⟩
      case measure => simp only [intOf]; omega
    · have hkn : k = n := by omega
      have g1 : ¬ (k : Int) < (n : Int) := by omega
      clear hwr
      go_wp2
      go_ret
      exact ⟨rfl, mm, HW.out⟩
section
variable {B : Nat} {W W' W1 W2 : World} {c : Nat → Nat} {kb bk i p n : Nat} {vl vw : Value} {ks : List Ke}
theorem taken_len (hk : KsOk ks) (i p : Nat) (hi : i < ks.length) : (taken ks i p).length ≤ 4096 * (i + 1) := by
  have key : ∀ (l : List Ke), (∀ e ∈ l, e.es.length ≤ 4096) → (l.flatMap Ke.es).length ≤ 4096 * l.length := by
    intro l
    induction l with
    | nil => exact fun _ => Nat.zero_le _
    | cons x r ih =>
      intro h
      rw [List.flatMap_cons, List.length_append, List.length_cons]
      have := ih fun e he => h e (List.mem_cons_of_mem _ he)
      have := h x (List.mem_cons_self ..)
      omega
  have he : ks.getD i ke0 ∈ ks := by
    rw [List.getD, List.getElem?_eq_getElem hi]
    exact List.getElem_mem hi
  have h1 := key (ks.take i) fun e he => (hk e (List.mem_of_mem_take he)).1
  have h2 := (hk _ he).1
  have h3 : (ks.take i).length ≤ i := by rw [List.length_take]; omega
  unfold taken
  rw [List.length_append, List.length_take]
  omega
theorem ke_mem (hi : i < ks.length) : ks.getD i ke0 ∈ ks := by
  rw [List.getD, List.getElem?_eq_getElem hi]
  exact List.getElem_mem hi
/-- How what is kept is read while its frames are taken. -/
theorem KeptAt.look {T : List Wy} (hA : KeptAt B W c kb bk vl vw ks) (hT : ∀ y ∈ T, ∃ e ∈ ks, y ∈ e.es) (ht : Taken B W c bk T W') :
    W'.cell? ⟨kb, 0, none⟩ = some (.pointer (some ⟨bk, 0, none⟩)) ∧ W'.cell? ⟨kb, 1, none⟩ = some vl ∧ W'.cell? ⟨kb, 2, none⟩ = some vw ∧
      ∀ i, i < ks.length → ∃ g cg g' cg', vl = .slice (some ⟨g, 0, none⟩) ks.length cg ∧ vw = .slice (some ⟨g', 0, none⟩) ks.length cg' ∧ W'.cell? ⟨g, i, none⟩ = some (ks.getD i ke0).l ∧ W'.cell? ⟨g', i, none⟩ = some (ks.getD i ke0).m ∧
        W'.ownsRow B 39 1 (ks.getD i ke0).l (ks.getD i ke0).es.length ((ks.getD i ke0).es.map Wy.d) ∧ (∃ A q, (ks.getD i ke0).m = .slice A (ks.getD i ke0).fs.length q) := by
  have hb := hA.stays hT ht hA.blk (by decide) (by have := hA.foot.1; omega)
  have hl := hA.row hT ht hA.lists (by decide) fun k hk => .inl (hA.foot.2.1 k hk)
  have hw := hA.row hT ht hA.were (by decide) fun k hk => .inl (hA.foot.2.2 k hk)
  refine ⟨hb.cell 0, hb.cell 1, hb.cell 2, fun i hi => ?_⟩
  obtain ⟨g, cg, e1, _, _, _, h1⟩ := own_form hl (by omega)
  obtain ⟨g', cg', e2, _, _, _, h2⟩ := own_form hw (by omega)
  have he := ke_mem (ks := ks) hi
  refine ⟨g, cg, g', cg', e1, e2, ?_, ?_, hA.row hT ht (hA.rows _ he) (by decide) fun k hk => .inl ((hA.footE _ he).1 k hk), own_slice1 (hA.rows2 _ he)⟩
  · rw [h1 i hi]
    simp [List.getD, hi]
  · rw [h2 i hi]
    simp [List.getD, hi]
def Mine3 (ks : List Ke) (k j : Nat) : Prop := ∃ e, ks[j]? = some e ∧ e.l.ownBlock = some k
theorem mine3_one (h : ks.Pairwise FarR) : ∀ k j j', Mine3 ks k j → Mine3 ks k j' → j = j' := by
  intro k j j' ⟨x, hx, h1⟩ ⟨y, hy, h2⟩
  obtain ⟨hj, rfl⟩ := List.getElem?_eq_some_iff.1 hx
  obtain ⟨hj', rfl⟩ := List.getElem?_eq_some_iff.1 hy
  rcases Nat.lt_trichotomy j j' with h3 | h3 | h3
  · exact absurd h2 (List.pairwise_iff_getElem.1 h j j' hj hj' h3 k h1)
  · exact h3
  · exact absurd h1 (List.pairwise_iff_getElem.1 h j' j hj' hj h3 k h2)
/-- Behind Owned. -/
theorem KeptAt.owned {T : List Wy} {F : Nat → Prop} (hA : KeptAt B W c kb bk vl vw ks) (hT : ∀ y ∈ T, ∃ e ∈ ks, y ∈ e.es) (ht : Taken B W c bk T W1) (hF : ∀ k, F k → c k = 6 ∨ Frs T k ∨ W.heap.size ≤ k) (ho : Only F W1 W2) :
    St3 B W2.heap.size kb bk vl vw ks 0 0 [] (.slice none 0 0) (Mine3 ks) W2 ∧ Only (fun k => c k = 5 ∨ c k = 6) W W2 ∧ ∀ k j, Mine3 ks k j → c k = 5 ∨ W.heap.size ≤ k := by
  have h5 : ∀ k, Frs T k → c k = 5 ∧ ∃ cs, Blk W k 5 cs := fun k ⟨y, hy, hk⟩ => by
    obtain ⟨e, he, hye⟩ := hT y hy
    exact ⟨(hA.footE e he).2.1 y hye k hk, blk_of_own (hA.frames e he y hye) hk⟩
  have hrow : ∀ {t : TypeId} {v : Value} {x : Nat} {xs : List Value}, W.ownsRow B t 1 v x xs → t ≠ 5 → (∀ k, v.ownBlock = some k → c k = 5) → W2.ownsRow B t 1 v x xs := fun hr h1 h2 =>
    own_only (hA.row hT ht hr h1 fun k hk => .inl (h2 k hk)) ho fun k hk e => by
      have a1 := h2 k hk
      have a2 := (own_block hr k hk).2
      rcases hF k e with h | h | h
      · omega
      · obtain ⟨cs, hb⟩ := (h5 k h).2
        exact ownN_far hr hb h1 hk
      · omega
  refine ⟨⟨?_, hrow hA.lists (by decide) hA.foot.2.1, ⟨rfl, .inl ⟨rfl, rfl⟩⟩, mine3_one hA.farR, fun j e _ he => ⟨⟨_, hrow (hA.rows e (List.mem_of_getElem? he)) (by decide) (hA.footE e (List.mem_of_getElem? he)).1⟩, fun k hk => ⟨e, he, hk⟩⟩, fun j e g hj _ _ => absurd hj (Nat.not_lt_zero _), fun k hk => by cases hk⟩, ?_, fun k j ⟨e, he, hk⟩ => .inl ((hA.footE e (List.mem_of_getElem? he)).1 k hk)⟩
  · refine ho.blk (hA.stays hT ht hA.blk (by decide) (by have := hA.foot.1; omega)) fun e => ?_
    have a1 := hA.foot.1
    have a2 := hA.blk.lt
    rcases hF kb e with h | h | h
    · omega
    · obtain ⟨cs, hb⟩ := (h5 kb h).2
      exact absurd (blk_type hb hA.blk) (by decide)
    · omega
  · exact (ht.only.mono (T := fun k => c k = 5 ∨ c k = 6) fun k _ e => e.elim .inr fun e => .inl (h5 k e).1).trans ho fun k hk => by
      rcases hF k hk with h | h | h
      · exact .inl (.inr h)
      · exact .inl (.inl (h5 k h).1)
      · exact .inr h
end
end Go.Proofs.Ytkkjnembjlgiaaa
