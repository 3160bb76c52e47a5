/-
  A hash under way in memory ('HashAt': it has taken these bytes), and the walks of digest.New, (*Hash).Len and (*Hash).Write.
-/
import Derived.Test.YthkongkbefpilaaDoorDig3
import Derived.Laws.CopyOwn
namespace Go.Proofs.YthkongkbefpilaaDoor
open Go.RowKit Sha
theorem HC_splice (s : S8) (l : List UInt8) (n : Int) (o : Nat) (c : List UInt8) (h : o + c.length ≤ l.length) :
    (HC s l n).toArray.toList.take (8 + o) ++ (BC c ++ (HC s l n).toArray.toList.drop (8 + o + (BC c).length)) = HC s (l.take o ++ c ++ l.drop (o + c.length)) n := by
  have h8 : (WC s.list).length = 8 := by simp [WC_length, S8.list]
  have hb : (BC l).length = l.length := BC_length l
  simp only [HC, BC_length]
  rw [List.append_assoc, List.take_append, List.drop_append, h8, show 8 + o - 8 = o by omega, show 8 + o + c.length - 8 = o + c.length by omega,
    List.take_of_length_le (by omega), List.drop_eq_nil_of_le (by omega), List.take_append_of_le_length (by omega), List.drop_append_of_le_length (by omega)]
  simp [BC, List.map_append, List.map_take, List.map_drop]
theorem HC_num (s : S8) (l : List UInt8) (n x : Int) (hl : l.length = 64) : (HC s l n).set 72 (.int .i64 x) = HC s l x := by
  have h8 : (WC s.list).length = 8 := by simp [WC_length, S8.list]
  have hb : (BC l).length = 64 := by rw [BC_length, hl]
  unfold HC
  rw [List.set_append_right _ _ (by simp; omega)]
  simp [h8, hb]
theorem HC_n {w : World} {g : Nat} {t : TypeId} {s : S8} {l : List UInt8} {n : Int} (h : Blk w g t (HC s l n)) (hl : l.length = 64) : w.cell? ⟨g, 72, none⟩ = some (.int .i64 n) := by
  have h8 : (WC s.list).length = 8 := by simp [WC_length, S8.list]
  have hb : (BC l).length = 64 := by rw [BC_length, hl]
  rw [h.cell]
  unfold HC
  rw [List.getElem?_append_right (by simp; omega)]
  simp [h8, hb]
/-- Block g is a hash that has taken the bytes m. -/
def HashAt (w : World) (g : Nat) (m : List UInt8) : Prop :=
  ∃ l : List UInt8, l.length = 64 ∧ l.take (m.length % 64) = rest m ∧ Blk w g 75 (HC (state m) l (m.length : Int))
theorem HashAt.lt {w : World} {g : Nat} {m : List UInt8} (h : HashAt w g m) : g < w.heap.size := by
  obtain ⟨_, _, _, h⟩ := h
  exact h.lt
theorem HashAt.only {w w' : World} {g : Nat} {m : List UInt8} {S : Nat → Prop} (h : HashAt w g m) (ho : Only S w w') (hS : ¬ S g) : HashAt w' g m := by
  obtain ⟨l, h1, h2, h3⟩ := h
  exact ⟨l, h1, h2, ho.blk h3 hS⟩
/-- What one round of the loop takes: c, either all that is left, or just what makes the block whole. -/
theorem cut_bytes (q : Nat) (hq : q < 64) (r : List UInt8) (hr : 0 < r.length) :
    ∃ c r', r = c ++ r' ∧ 0 < c.length ∧ c.length = Nat.min r.length (64 - q) ∧ ((q + c.length < 64 ∧ r' = []) ∨ q + c.length = 64) := by
  refine ⟨r.take (64 - q), r.drop (64 - q), (List.take_append_drop _ _).symm, by simp; omega, ?_, ?_⟩
  · rw [List.length_take]
    exact Nat.min_comm _ _
  · rw [List.length_take]
    by_cases h : r.length < 64 - q
    · exact .inl ⟨by omega, List.drop_eq_nil_of_le (by omega)⟩
    · exact .inr (by omega)
/-- .. and what it leaves, ahead of the block's round. -/
structure Taken (m c : List UInt8) (l l' : List UInt8) : Prop where
  len : l'.length = 64
  part : m.length % 64 + c.length < 64 → l'.take ((m ++ c).length % 64) = rest (m ++ c)
  whole : m.length % 64 + c.length = 64 → l' = rest m ++ c
theorem taken {m c l : List UInt8} (hl : l.length = 64) (hp : l.take (m.length % 64) = rest m) (hc : m.length % 64 + c.length ≤ 64) (hc0 : 0 < c.length) :
    Taken m c l (l.take (m.length % 64) ++ c ++ l.drop (m.length % 64 + c.length)) := by
  have hr := rest_length m
  refine ⟨by simp; omega, fun h => ?_, fun h => ?_⟩
  · rw [rest_part m c h, hp, List.length_append, show (m.length + c.length) % 64 = (rest m ++ c).length by simp [hr]; omega, List.take_left]
  · rw [hp, List.drop_eq_nil_of_le (by omega), List.append_nil]
theorem Taken.done_part {m c l l' : List UInt8} (h : Taken m c l l') (hp : m.length % 64 + c.length < 64) {w : World} {g : Nat} (hb : Blk w g 75 (HC (state m) l' ((m ++ c).length : Int))) : HashAt w g (m ++ c) :=
  ⟨l', h.len, h.part hp, by rw [state_part m c hp]; exact hb⟩
theorem Taken.done_whole {m c l l' : List UInt8} (h : Taken m c l l') (hp : m.length % 64 + c.length = 64) {w : World} {g : Nat} (hb : Blk w g 75 (HC (gone (state m) l') l' ((m ++ c).length : Int))) : HashAt w g (m ++ c) := by
  refine ⟨l', h.len, ?_, ?_⟩
  · rw [rest_whole m c hp, List.length_append, show (m.length + c.length) % 64 = 0 by omega]; rfl
  · rw [state_whole m c hp, ← h.whole hp]
    exact hb
theorem RB.setCell {w : World} {v : Value} {bs : List UInt8} (h : RB w v bs) {p : Addr} (hp : blkOf v ≠ some p.block) (u : Value) : RB (w.setCell p u) v bs :=
  h.keep fun g hg _ => Below.heap_setCell w p u g (fun e => hp (by rw [hg, e]))
theorem RB.apart {w w' : World} {v : Value} {bs : List UInt8} {g : Nat} (h : RB w v bs) (ho : Only (One g) w w') (hd : blkOf v ≠ some g) : RB w' v bs :=
  h.only ho fun _ hg hs => hd (by rw [hg]; exact congrArg some hs)
def lenOf : Value → Nat
  | .slice _ n _ => n
  | _ => 0
set_option maxHeartbeats 1600000 in
set_option maxRecDepth 100000 in
theorem write_any (g : Nat) (m bs : List UInt8) (v : Value) (w : World) (hH : HashAt w g m) (hv : RB w v bs) (hd : blkOf v ≠ some g) (hlen : m.length + bs.length ≤ 1000000000000000000) :
    Calls Tryd.prog 44 #[.pointer (some ⟨g, 0, none⟩), v] w fun e w' => e = .returned (.tuple #[]) ∧ HashAt w' g (m ++ bs) ∧ Only (One g) w w' := by
  obtain ⟨A, c, rfl, hc⟩ := hv.form
  go_enter Tryd.func44, Tryd.ntmps44
  go_wp2
  go_loopw [1] (fun v wr => ∃ (d r : List UInt8) (A : Option Addr) (c : Nat), bs = d ++ r ∧ v = .slice A r.length c ∧ RB wr (.slice A r.length c) r ∧ blkOf (.slice A r.length c) ≠ some g ∧ HashAt wr g (m ++ d) ∧ Only (One g) w wr) (fun v _ => lenOf v)
  case atStart => exact ⟨[], bs, A, c, rfl, rfl, hv, hd, by simpa using hH, Only.refl _ _⟩
  case round =>
    clear hv hd hH hc
    obtain ⟨d, r, A, c, hbs, rfl, hv, hd, hH, hO⟩ := hrel
    by_cases hr : 0 < r.length
    · obtain ⟨l, hl, hp, hB⟩ := hH
      generalize hM : m ++ d = M at *
      have hMl : M.length + r.length ≤ 1000000000000000000 := by rw [← hM]; rw [hbs] at hlen; simp at hlen ⊢; omega
      have hq : M.length % 64 < 64 := Nat.mod_lt _ (by omega)
      obtain ⟨x, r', hr', hx0, hxm, hx⟩ := cut_bytes (M.length % 64) hq r hr
      have hxr : x.length ≤ r.length := by rw [hr']; simp
      have hT := taken (m := M) (c := x) hl hp (by omega) hx0
      obtain ⟨A2, hrun, hv2, hd2⟩ := cut_from (P := Tryd.prog) 26 5 .i64 Tryd.underlying26 (by kernel_rfl) hv x.length hxr
      have hdrop : r.drop x.length = r' := by rw [hr']; simp
      rw [hdrop] at hrun hv2 hd2
      rw [hd2.symm] at hd
      obtain ⟨ga, oa, rfl, hcell⟩ : ∃ ga oa, A = some ⟨ga, oa, none⟩ ∧ ∀ j, j < r.length → wr.cell? ⟨ga, oa + j, none⟩ = some (.int .u8 (by8 (r.getD j 0))) := by
        obtain ⟨_, _, e, _, h⟩ := hv
        injection e with e1 e2 e3
        subst e1
        exact h hr
      have hsrc : ∀ j v, (BC x)[j]? = some v → wr.drew.cell? ((⟨ga, oa, none⟩ : Addr).add j) = some v := by
        intro j v hj
        have hjl : j < x.length := by have := (List.getElem?_eq_some_iff.1 hj).1; rwa [BC_length] at this
        rw [BC_get _ _ hjl] at hj
        rw [Addr.add_mid, show wr.drew.cell? ⟨ga, oa + j, none⟩ = wr.cell? ⟨ga, oa + j, none⟩ from rfl, hcell j (by omega), ← hj, hr']
        simp [List.getD, List.getElem?_append_left hjl]
      have cN := HC_n hB hl
      have fN := hB.free 72
      obtain ⟨N, hN⟩ : ∃ N, N = M.length := ⟨_, rfl⟩
      obtain ⟨q, hqN⟩ : ∃ q, q = N % 64 := ⟨_, rfl⟩
      rw [← hN] at hB hq hMl hp hT hxm hx
      rw [← hqN] at hq hp hT hxm hx
      have hB1 : Blk (wr.drew.setRow g ((HC (state M) l (N : Int)).toArray.toList.take (8 + q) ++ (BC x ++ (HC (state M) l (N : Int)).toArray.toList.drop (8 + q + (BC x).length))).toArray) g 75 (HC (state M) (l.take q ++ x ++ l.drop (q + x.length)) (N : Int)) := by
        rw [HC_splice _ _ _ _ _ (by omega)]
        exact Blk.row (t := 75) (cs := HC (state M) l (N : Int)) hB _
      have hO1 : Only (One g) w (wr.drew.setRow g ((HC (state M) l (N : Int)).toArray.toList.take (8 + q) ++ (BC x ++ (HC (state M) l (N : Int)).toArray.toList.drop (8 + q + (BC x).length))).toArray) := hO.drew.setRow (.inl (One.self g)) _
      have hO2 : Only (One g) wr (wr.drew.setRow g ((HC (state M) l (N : Int)).toArray.toList.take (8 + q) ++ (BC x ++ (HC (state M) l (N : Int)).toArray.toList.drop (8 + q + (BC x).length))).toArray) := (Only.refl _ _).drew.setRow (.inl (One.self g)) _
      have et : Int.tmod (N : Int) 64 = (q : Int) := by rw [Int.tmod_eq_emod_of_nonneg (by omega)]; omega
      have q0 : (q : Int) ≤ 64 := by omega
      have q64 : ¬ (64 = q) := by omega
      rw [← hN] at cN
      have hfit : 8 + q + (BC x).length ≤ (HC (state M) l (N : Int)).toArray.size := by
        rw [BC_length, List.size_toArray, HC_length]
        have := Nat.min_le_right r.length (64 - q)
        omega
      have hNx : (N : Int) + (x.length : Int) ≤ 1000000000000000000 := by omega
      have HN := Lib.hid hN
      have HQ := Lib.hid hqN
      have HT := Lib.hid hT
      have HM := Lib.hid hM
      have HBS := Lib.hid hbs
      have HV := Lib.hid hv2
      have HD := Lib.hid hd
      have HR := Lib.hid hr'
      have HX := Lib.hid hx
      have HXM := Lib.hid hxm
      have HS := Lib.hid hsrc
      have HB := Lib.hid hB
      have HB1 := Lib.hid hB1
      have HO1 := Lib.hid hO1
      have HO2 := Lib.hid hO2
      have HF := Lib.hid hfit
      clear hN hqN hB hT hM hbs hO hv hv2 hd hd2 hr' hx hxm hl hp hMl hq hlen hcell hsrc hB1 hO1 hO2 hfit hdrop hxr
      go_wp2
      go_still_tail 10, (by kernel_rfl)
      change wpList _ _ _ _ _ wr.drew
      refine wpList_copy_own rfl (.tmp 16) (.tmp 17) 26 26 rfl 5 Tryd.underlying26 (by kernel_rfl) g (8 + q) (64 - q) (64 - q) ⟨ga, oa, none⟩ r.length c rfl rfl (HC (state M) l (N : Int)).toArray 75 HB.out (BC x) (by rw [BC_length]; exact HXM.out) HS.out HF.out (BC_one x) ?_
      generalize World.setRow wr.drew g _ = w2 at *
      rw [show goInt (BC x).length = Value.int .i64 (x.length : Int) by rw [BC_length]; rfl]
      have hl' : (l.take q ++ x ++ l.drop (q + x.length)).length = 64 := HT.out.len
      have c2 := HC_n HB1.out hl'
      have f2 := HB1.out.free 72
      rcases HX.out with ⟨hp1, hp2⟩ | hp1
      · have htest : (((N : Int) + (x.length : Int)) % 64 == 0) = false := by rw [beq_eq_false_iff_ne]; have := HQ.out; omega
        have HP := Lib.hid hp1
        have HP2 := Lib.hid hp2
        clear hp1 hp2 cN fN hl'
        go_wp2
        go_roundw
        case rel =>
          have hN := HN.out
          have hq := HQ.out
          refine ⟨d ++ x, r', A2, c - x.length, by rw [HBS.out, HR.out, List.append_assoc], rfl, (HV.out.apart HO2.out HD.out).setCell (p := ⟨g, 72, none⟩) HD.out _, HD.out, ?_, HO1.out.setCell (.inl (One.self g)) _⟩
          rw [← List.append_assoc, HM.out]
          have hb := HB1.out.set 72 (.int .i64 ((N : Int) + (x.length : Int)))
          rw [HC_num _ _ _ _ HT.out.len] at hb
          refine HT.out.done_part (by have := HP.out; omega) ?_
          rw [List.length_append, ← hN, show ((N + x.length : Nat) : Int) = (N : Int) + (x.length : Int) by omega]
          exact hb
        case measure =>
          have := congrArg List.length HR.out
          simp [lenOf] at this ⊢
          omega
      · have htest : (((N : Int) + (x.length : Int)) % 64 == 0) = true := by rw [beq_iff_eq]; have := HQ.out; omega
        have hb := HB1.out.set 72 (.int .i64 ((N : Int) + (x.length : Int)))
        rw [HC_num _ _ _ _ HT.out.len] at hb
        have HBN := Lib.hid hb
        have HP := Lib.hid hp1
        clear hp1 cN fN hl' hb
        go_wp2_with (go_at_call 48; refine (round_any g (state M) (l.take q ++ x ++ l.drop (q + x.length)) ((N : Int) + (x.length : Int)) _ HT.out.len HBN.out).mono ?_; rintro e w3 ⟨rfl, hb3, ho3⟩)
        have HB3 := Lib.hid hb3
        have HO3 := Lib.hid ho3
        clear hb3 ho3
        go_wp2
        go_roundw
        case rel =>
          have hN := HN.out
          have hq := HQ.out
          refine ⟨d ++ x, r', A2, c - x.length, by rw [HBS.out, HR.out, List.append_assoc], rfl, ((HV.out.apart HO2.out HD.out).setCell (p := ⟨g, 72, none⟩) HD.out _).apart HO3.out HD.out, HD.out, ?_, (HO1.out.setCell (.inl (One.self g)) _).then HO3.out⟩
          rw [← List.append_assoc, HM.out]
          refine HT.out.done_whole (by have := HP.out; omega) ?_
          rw [List.length_append, ← hN, show ((N + x.length : Nat) : Int) = (N : Int) + (x.length : Int) by omega]
          exact HB3.out
        case measure =>
          have := congrArg List.length HR.out
          simp [lenOf] at this ⊢
          omega
    · have hr0 : r = [] := List.eq_nil_of_length_eq_zero (by omega)
      have HR0 := Lib.hid hr0
      have hl0 : ¬ ((0 : Int) < (r.length : Int)) := by omega
      have HBS := Lib.hid hbs
      have HH := Lib.hid hH
      have HO := Lib.hid hO
      clear hr0 hbs hH hO hv hd
      go_wp2
      go_end0
      refine ⟨rfl, ?_, HO.out⟩
      rw [HBS.out, HR0.out, List.append_nil]
      exact HH.out
end Go.Proofs.YthkongkbefpilaaDoor
