/-
  Same: are two lists of frames alike?
-/
import Derived.Test.YtkkjnembjlgiaaaWk
namespace Go.Proofs.Ytkkjnembjlgiaaa
set_option maxRecDepth 100000
open Go.RowKit

theorem str_toList (l : List UInt8) : (str l).toList = l := by
  rw [ByteArray.toList_eq]
  simp [str]
theorem str_eq (x y : List UInt8) : ((str x).toList == (str y).toList) = decide (x = y) := by
  rw [str_toList, str_toList]
  by_cases h : x = y <;> simp [h]
theorem Parts.at' {W : World} {v : Value} {vs : List Value} {ps : List (List UInt8)} (h : Parts W v vs ps) : ∃ A c, v = .slice A ps.length c ∧ ∀ k, k < ps.length → ∃ g o, A = some ⟨g, o, none⟩ ∧ W.cell? ⟨g, o + k, none⟩ = some (vs.getD k undef) ∧ ∃ A' c', vs.getD k undef = .slice A' (ps.getD k []).length c' ∧ RB W (.slice A' (ps.getD k []).length c') (ps.getD k []) := by
  obtain ⟨⟨A, c, rfl, hc, hr⟩, hl, he⟩ := h
  refine ⟨A, c, by rw [hl], fun k hk => ?_⟩
  obtain ⟨g, o, rfl, hcell⟩ := hr (by omega)
  have hb := he k hk
  obtain ⟨A', c', e, _⟩ := hb.form
  exact ⟨g, o, rfl, hcell k (by omega), A', c', e, e ▸ hb⟩
set_option maxHeartbeats 1600000 in
theorem same_any (va vb : Value) (vsa vsb : List Value) (pa pb : List (List UInt8)) (w : World) (ha : Parts w va vsa pa) (hb : Parts w vb vsb pb) (hsz : pa.length ≤ 1000000000000000) :
    Calls Try.prog 18 #[va, vb] w fun e w' => e = .returned (.bool (decide (pa = pb))) ∧ Only Nil w w' := by
  have HPA := Lib.hid (show ∀ W, Only Nil w W → Parts W va vsa pa from fun W ho => ha.only ho)
  have HPB := Lib.hid (show ∀ W, Only Nil w W → Parts W vb vsb pb from fun W ho => hb.only ho)
  obtain ⟨A, ca, rfl, _⟩ := ha.at'
  obtain ⟨A', cb, rfl, _⟩ := hb.at'
  clear ha hb
  go_enter Try.func18, Try.ntmps18
  by_cases hl : pa.length = pb.length
  · have HL := Lib.hid hl
    rw [← hl]
    clear hl
    obtain ⟨n, hn⟩ : ∃ n, pa.length = n := ⟨_, rfl⟩
    have HN := Lib.hid hn
    rw [hn] at hsz ⊢
    clear hn
    go_wp2
    go_loopw [5] (fun i wr => ∃ k : Nat, k ≤ n ∧ i = .int .i64 k ∧ (∀ j, j < k → pa.getD j [] = pb.getD j []) ∧ Only Nil w wr) (fun i _ => n - (intOf i).toNat)
    case atStart => exact ⟨0, Nat.zero_le _, rfl, fun j hj => absurd hj (Nat.not_lt_zero _), Only.refl _ _⟩
    case round =>
      obtain ⟨k, hk, rfl, hall, ho⟩ := hrel
      have HA := Lib.hid hall
      have HO := Lib.hid ho
      by_cases hlt : k < n
      · obtain ⟨A0, c0, e0, hat⟩ := (HPA.out wr ho).at'
        obtain ⟨A1, c1, e1, hbt⟩ := (HPB.out wr ho).at'
        injection e0 with e0
        injection e1 with e1
        subst e0 e1
        obtain ⟨ga, oa, rfl, q0, Ax, cx, ex, hrx⟩ := hat k (by rw [HN.out]; exact hlt)
        obtain ⟨gb, ob, rfl, q1, Ay, cy, ey, hry⟩ := hbt k (by rw [← HL.out, HN.out]; exact hlt)
        rw [ex] at q0
        rw [ey] at q1
        have s0 : ∀ j, (convert 39 9 (.slice Ax (pa.getD k []).length cx)).run Try.prog (wr.drewN j) = .ok (.string (str (pa.getD k []))) (wr.drewN j) := fun j => str_of (P := Try.prog) (src := 39) (e := 5) (dst := 9) Try.underlying39 Try.underlying5 Try.underlying9 (hrx.drewN j)
        have s1 : ∀ j, (convert 39 9 (.slice Ay (pb.getD k []).length cy)).run Try.prog (wr.drewN j) = .ok (.string (str (pb.getD k []))) (wr.drewN j) := fun j => str_of (P := Try.prog) (src := 39) (e := 5) (dst := 9) Try.underlying39 Try.underlying5 Try.underlying9 (hry.drewN j)
        obtain ⟨x, hx⟩ : ∃ x, pa.getD k [] = x := ⟨_, rfl⟩
        obtain ⟨y, hy⟩ : ∃ x, pb.getD k [] = x := ⟨_, rfl⟩
        rw [hx] at q0 s0
        rw [hy] at q1 s1
        have HX := Lib.hid hx
        have HY := Lib.hid hy
        have g1 : (k : Int) < (n : Int) := by omega
        clear ho hall hat hbt ex ey hrx hry hx hy
        have hs : x = y ∨ ¬ x = y := Classical.em _
        go_upto_region 6 with fail
        go_quiet (fail)
        go_upto_if 27 with fail
        rcases hs with hs | hs
        · have hs2 : ((str x).toList == (str y).toList) = true := by rw [str_eq]; simpa using hs
          rw [hs2]
          have HS := Lib.hid hs
          clear hs hs2
          go_wp2
          go_roundw
          case rel =>
            refine ⟨k + 1, by omega, by go_num, fun j hj => ?_, HO.out.drewN nq⟩
            by_cases hjk : j < k
            · exact HA.out j hjk
            · obtain rfl : j = k := by omega
              rw [HX.out, HY.out, HS.out]
          case measure => simp only [intOf]; omega
        · have hs2 : ((str x).toList == (str y).toList) = false := by rw [str_eq]; simpa using hs
          rw [hs2]
          have HS := Lib.hid hs
          clear hs hs2
          go_wp2
          go_ret
          refine ⟨?_, HO.out.drewN nq⟩
          have : ¬ pa = pb := fun e => HS.out (by rw [← HX.out, ← HY.out, e])
          simp [this]
      · have hkn : k = n := by omega
        have g1 : ¬ (k : Int) < (n : Int) := by omega
        clear ho hall
        go_wp2
        go_ret
        refine ⟨?_, HO.out⟩
        have : pa = pb := List.ext_getElem (by rw [HL.out]) fun j h1 h2 => by
          have := HA.out j (by rw [HN.out] at h1; omega)
          simpa [List.getD, h1, h2] using this
        simp [this]
  · have d1 : ((pa.length : Int) == (pb.length : Int)) = false := by simp; omega
    have HL := Lib.hid hl
    clear hl
    go_wp2
    go_ret
    refine ⟨?_, Only.refl _ _⟩
    have : ¬ pa = pb := fun e => HL.out (by rw [e])
    simp [this]
end Go.Proofs.Ytkkjnembjlgiaaa
