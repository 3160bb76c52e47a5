/-
  WirePlays: stands: its walk.
-/
import Derived.Test.YtkkjnembjlgiaaaVq
namespace Go.Proofs.Ytkkjnembjlgiaaa
set_option maxRecDepth 100000
open Go.RowKit

section
variable {B : Nat} {W W' W1 W2 : World} {c : Nat → Nat} {kb bk : Nat} {ks : List Ke}
set_option maxHeartbeats 40000000 in
theorem stands_any (K : Kept B W c kb bk ks) (hk : KsOk ks) (hn : ks.length ≤ 10000000) :
    Calls Try.prog 11 #[.pointer (some ⟨kb, 0, none⟩)] W fun e W' => e = .returned (.bool true) ∧ Only (fun k => c k = 5 ∨ c k = 6) W W' := by
  have HT0 := Lib.hid (Taken.start K)
  obtain ⟨⟨vl, vw, hA⟩, ⟨FB0, hB0, _⟩, _⟩ := K
  have hBW : B ≤ W.heap.size := hB0.base
  clear hB0
  obtain ⟨Al, cl, rfl⟩ := own_slice1 hA.lists
  obtain ⟨Aw, cw, rfl⟩ := own_slice1 hA.were
  have HA := Lib.hid hA
  have HKO := Lib.hid hk
  obtain ⟨n, hlen⟩ : ∃ n, ks.length = n := ⟨_, rfl⟩
  have HN := Lib.hid hlen
  rw [hlen] at hn
  obtain ⟨ir, hir, hrz, hrs, hrb⟩ := info_parts info_rowB
  obtain ⟨ir3, hir3, hrz3, hrs3, hrb3⟩ := info_parts info_rows3
  clear hA hk hlen
  go_enter Try.func11, Try.ntmps11
  go_wp2
  go_loopw [3] (fun iv W' => ∃ i : Nat, i ≤ n ∧ iv = .int .i64 i ∧ Taken B W c bk (taken ks i 0) W') (fun iv _ => n - (intOf iv).toNat)
  case atStart => exact ⟨0, Nat.zero_le _, rfl, by rw [taken_zero]; exact HT0.out⟩
  case round =>
    obtain ⟨i, hi, rfl, ht⟩ := hrel
    have HT := Lib.hid ht
    obtain ⟨c0, c1, c2, hel⟩ := HA.out.look (fun y hy => taken_mem y hy) ht
    rw [HN.out] at c1 c2
    by_cases hlt : i < n
    ·
      have g1 : (i : Int) < (n : Int) := by omega
      obtain ⟨g, cg, g', cg', e1, e2, q0, q1, hrow, Am, cm, hm⟩ := hel i (by rw [HN.out]; exact hlt)
      injection e1 with e1 _ e1c
      injection e2 with e2 _ e2c
      subst e1 e1c e2 e2c
      have hP := HA.out.parts (by rw [HN.out]; exact hlt) ht
      have hs0 := (HA.out.same _ (ke_mem (ks := ks) (i := i) (by rw [HN.out]; exact hlt)))
      have hml : (ks.getD i ke0).fs.length = (ks.getD i ke0).es.length := by
        have := congrArg List.length hs0
        simpa using this.symm
      rw [hm, hml] at q1
      obtain ⟨Ae, ce, hee⟩ := own_slice1 hrow
      rw [hee] at q0 hrow
      have hsame := same_drew (.slice Ae (ks.getD i ke0).es.length ce) (.slice Am (ks.getD i ke0).es.length cm) _ _ _ wr (by rw [← hee]; exact hP.1) (by rw [← hml, ← hm, hs0]; exact hP.2) (by rw [List.length_map]; have := (HKO.out _ (ke_mem (ks := ks) (i := i) (by rw [HN.out]; exact hlt))).1; omega)
      have hmx := (HKO.out _ (ke_mem (ks := ks) (i := i) (by rw [HN.out]; exact hlt))).1
      obtain ⟨m, hmm⟩ : ∃ m, (ks.getD i ke0).es.length = m := ⟨_, rfl⟩
      have HM := Lib.hid hmm
      have HE := Lib.hid hee
      rw [hmm] at q0 q1 hsame hmx
      have HSD := Lib.hid (show ∀ j, Calls Try.prog 18 #[.slice Ae m ce, .slice Am m cm] (wr.drewN j) fun e w' => e = .returned (.bool true) ∧ ∃ q, w' = (wr.drewN j).drewN q from fun j => by
        have hP' := HA.out.parts (by rw [HN.out]; exact hlt) (ht.nil ((Only.refl Nil wr).drewN j))
        have := same_drew (.slice Ae (ks.getD i ke0).es.length ce) (.slice Am (ks.getD i ke0).es.length cm) _ _ _ (wr.drewN j) (by rw [← hee]; exact hP'.1) (by rw [← hml, ← hm, hs0]; exact hP'.2) (by rw [List.length_map]; omega)
        rw [hmm] at this
        exact this)
      clear hel hP hs0 hml hm hee hmm hsame hrow ht
      go_upto_region 4 with fail
      go_quiet ((go_at_call 18; exact Calls.quiet_of (HSD.out _)))
      have HT1 := Lib.hid (HT.out.nil ((Only.refl Nil wr).drewN nq))
      clear c0 c1 c2 q0 q1 HSD HT
      generalize wr.drewN nq = wq at *
      go_wp2
      go_loopw [5] (fun pv W' => ∃ p : Nat, p ≤ m ∧ pv = .int .i64 p ∧ Taken B W c bk (taken ks i p) W') (fun pv _ => m - (intOf pv).toNat)
      case atStart => exact ⟨0, Nat.zero_le _, rfl, HT1.out⟩
      case round =>
        obtain ⟨p, hp, rfl, ht⟩ := hrel
        have HT := Lib.hid ht
        obtain ⟨c0, c1, c2, hel⟩ := HA.out.look (fun y hy => taken_mem y hy) ht
        rw [HN.out] at c1 c2
        obtain ⟨g2, cg2, g2', cg2', e1, e2, q0, q1, hrow, Am2, cm2, hm2⟩ := hel i (by rw [HN.out]; exact hlt)
        injection e1 with e1 _ e1c
        injection e1 with e1
        injection e1 with e1
        subst e1 e1c
        rw [HE.out, HM.out] at q0
        by_cases hpm : p < m
        · have g3 : (p : Int) < (m : Int) := by omega
          rw [HE.out] at hrow
          obtain ⟨ga, cga, e3, _, _, _, hcell⟩ := own_form hrow (by rw [HM.out]; omega)
          injection e3 with e3 _ e3c
          subst e3 e3c
          have q2 := hcell p (by rw [HM.out]; exact hpm)
          obtain ⟨y, hy⟩ : ∃ y, (ks.getD i ke0).es.getD p wy0 = y := ⟨_, rfl⟩
          have q3 : wr.cell? ⟨ga, p, none⟩ = some (.slice y.a y.bs.length y.cap) := by
            rw [q2, ← hy]
            have hpl : p < (ks.getD i ke0).es.length := by rw [HM.out]; exact hpm
            rw [List.getD, List.getElem?_map, List.getElem?_eq_getElem hpl, getD_of hpl]
            rfl
          have HTK := Lib.hid (show ∀ j, Calls Try.prog 28 #[.pointer (some ⟨bk, 0, none⟩), .slice y.a y.bs.length y.cap] (wr.drewN j) fun e W2 => e = .returned (.tuple #[]) ∧ Taken B W c bk (taken ks i (p + 1)) W2 from fun j =>
            Taken.step HA.out (by rw [HN.out]; exact hlt) (by rw [HM.out]; exact hpm) hy (ht.nil ((Only.refl Nil wr).drewN j)) (by have := taken_len HKO.out i p (by rw [HN.out]; exact hlt); omega))
          clear hel e2 q1 hm2 hrow hcell q2 hy ht
          go_upto_region 10 with fail
          go_still_tail 14, (by kernel_rfl)
          change wpList _ _ _ _ _ wr.drew
          clear c0 c1 c2 q0 q3 HT
          go_wp2_with (go_at_call 28; refine (HTK.out 1).mono ?_; rintro e W5 ⟨rfl, ht5⟩; have HT5 := Lib.hid ht5; clear ht5)
          go_roundw
          case rel => exact ⟨p + 1, by omega, by go_num, HT5.out⟩
          case measure => simp only [intOf]; omega
        · have hpm2 : p = m := by omega
          subst hpm2
          have g3 : ¬ (p : Int) < (p : Int) := by omega
          clear hel e2 q1 hm2 hrow ht
          go_wp2
          go_roundw
          case rel => exact ⟨i + 1, by omega, by go_num, by rw [taken_next (by rw [HN.out]; exact hlt), HM.out]; exact HT.out⟩
          case measure => simp only [intOf]; omega
    · have hin : i = n := by omega
      subst hin
      have g1 : ¬ (i : Int) < (i : Int) := by omega
      have hall : taken ks i 0 = ks.flatMap Ke.es := by rw [← HN.out]; exact taken_all
      obtain ⟨FB, hFB, hF6⟩ := ht.book
      have hlen : (taken ks i 0).length ≤ 100000000000 := by
        by_cases h0 : i = 0
        · subst h0
          rw [taken_zero]
          simp
        · have e := taken_next (ks := ks) (i := i - 1) (by rw [HN.out]; omega)
          rw [show i - 1 + 1 = i by omega] at e
          rw [e]
          have := taken_len HKO.out (i - 1) (ks.getD (i - 1) ke0).es.length (by rw [HN.out]; omega)
          omega
      have HOW := Lib.hid (owned_any hFB (by rw [List.length_map]; exact hlen) fun z hz => by
        obtain ⟨y, hy, rfl⟩ := List.mem_map.1 hz
        obtain ⟨e, he, hye⟩ := taken_mem y hy
        exact (HKO.out e he).2 y hye)
      have HF6 := Lib.hid hF6
      clear hel ht hFB hF6 hlen hall
      go_upto_region 14 with (go_at_call 29; refine HOW.out.mono ?_; rintro e W2 ⟨rfl, ho2⟩)
      obtain ⟨hS0, hO0, hR0⟩ := HA.out.owned (fun y hy => taken_mem y hy) HT.out HF6.out ho2
      have HS0 := Lib.hid hS0
      have HO0 := Lib.hid hO0
      have HR0 := Lib.hid hR0
      obtain ⟨N, hNN⟩ : ∃ N, W2.heap.size = N := ⟨_, rfl⟩
      rw [hNN] at HS0
      have HNN := Lib.hid hNN
      have hNW : W.heap.size ≤ N := by rw [← hNN]; exact hO0.size
      clear hS0 hO0 hR0 ho2 HOW c0 c1 c2 hNN
      go_wp2
      go_loopw [7, 8] (fun vg iv W3 => ∃ (j : Nat) (gs : List Value) (R : Nat → Nat → Prop), j ≤ i ∧ iv = .int .i64 j ∧ St3 B N kb bk (.slice Al i cl) (.slice Aw i cw) ks j j gs vg R W3 ∧ Only (fun k => c k = 5 ∨ c k = 6) W W3 ∧ (∀ k j, R k j → c k = 5 ∨ W.heap.size ≤ k) ∧ N ≤ W3.heap.size) (fun _ iv _ => i - (intOf iv).toNat)
      case atStart => exact ⟨0, [], _, Nat.zero_le _, rfl, by
        have := HS0.out
        rw [HN.out] at this
        exact this, HO0.out, HR0.out, Nat.le_of_eq HNN.out.symm⟩
      case round =>
        obtain ⟨j, gs, R, hj, rfl, hS, hO, hR, hNs⟩ := hrel
        have c1 : wr.cell? ⟨kb, 1, none⟩ = some (.slice Al i cl) := hS.blk.cell 1
        obtain ⟨A4, c4, hu4⟩ := own_slice1 hS.grown
        subst hu4
        have HO2 := Lib.hid hO
        have HR := Lib.hid hR
        by_cases hlt2 : j < i
        ·
          obtain ⟨e, hx⟩ : ∃ e, ks[j]? = some e := ⟨_, List.getElem?_eq_getElem (by rw [HN.out]; exact hlt2)⟩
          obtain ⟨⟨us0, hus0⟩, hvr⟩ := hS.later j e (Nat.le_refl _) hx
          obtain ⟨gl, cgl, e1, _, _, _, hcl⟩ := own_form hS.lists (by rw [HN.out]; omega)
          injection e1 with e1 eln e1c
          clear eln
          subst e1 e1c
          have q0 := hcl j (by rw [HN.out]; exact hlt2)
          have hq0 : (ks.map Ke.l).getD j undef = e.l := by rw [List.getD, List.getElem?_map, hx]; rfl
          rw [hq0] at q0
          obtain ⟨Ae, ce, hee⟩ := own_slice1 hus0
          rw [hee] at q0
          have hmx := (HKO.out e (List.mem_of_getElem? hx)).1
          have HV := Lib.hid (show Half3 B wr e.l j e.es.length 0 from ⟨us0, hus0, by have := hus0.1; omega, fun p u hp => absurd hp (Nat.not_lt_zero _)⟩)
          obtain ⟨m, hm⟩ : ∃ m, e.es.length = m := ⟨_, rfl⟩
          have HM := Lib.hid hm
          have HE := Lib.hid hee
          have HX := Lib.hid hx
          rw [hee, hm] at HV
          rw [hm] at q0 hmx
          have g1' : (j : Int) < (i : Int) := by omega
          have HS2 := Lib.hid ((hS.mono (Nat.le_succ j)).next (m := j))
          have HVR := Lib.hid (show ∀ k, e.l.ownBlock = some k → Next R wr.heap.size j k j from fun k hk => .inl ⟨(own_block hus0 k hk).2, hvr k hk⟩)
          have HR2 := Lib.hid (show ∀ k q, Next R wr.heap.size j k q → c k = 5 ∨ W.heap.size ≤ k from fun k q hk => hk.elim (fun h => hR k q h.2) fun h => .inr (Nat.le_trans hO.size h.1))
          have HNEW := Lib.hid (show ∀ k, wr.heap.size ≤ k → Next R wr.heap.size j k j from fun k hk => .inr ⟨hk, rfl⟩)
          obtain ⟨R2, hR2⟩ : ∃ x, Next R wr.heap.size j = x := ⟨_, rfl⟩
          rw [hR2] at HVR HR2 HS2 HNEW
          obtain ⟨z1, hz1⟩ : ∃ x, wr.heap.size = x := ⟨_, rfl⟩
          have hNz : N ≤ z1 := by rw [← hz1]; exact hNs
          rw [hz1] at HNEW
          clear hS hO hR hm hx hus0 hvr hcl hq0 hee hR2 HR HS0
          go_wp2
          go_loopw [10] (fun nv W' => ∃ p : Nat, p ≤ m ∧ nv = .int .i64 p ∧ St3 B N kb bk (.slice (some ⟨gl, 0, none⟩) i cl) (.slice Aw i cw) ks (j + 1) j gs (.slice A4 j c4) R2 W' ∧ Half3 B W' (.slice Ae m ce) j m p ∧ Only (fun k => c k = 5 ∨ c k = 6) W W' ∧ z1 ≤ W'.heap.size) (fun nv _ => m - (intOf nv).toNat)
          case atStart => exact ⟨0, Nat.zero_le _, rfl, HS2.out, HV.out, HO2.out, Nat.le_of_eq hz1.symm⟩
          case round =>
            obtain ⟨p, hp, rfl, hS, hv, hO, hsz⟩ := hrel
            by_cases hpm : p < m
            · have g2 : (p : Int) < (m : Int) := by omega
              have hth := Three.new wr j p
              rw [three_BC] at hth
              obtain ⟨b, rfl, ⟨o, c5⟩, z5, hv5, ho5, cs5, hb5⟩ := hv.put hpm ((Only.refl Nil wr).alloc _) hth
              have HP := Lib.hid (hS.step ho5 (fun k hk _ => by rw [show k = b from hk]; exact ⟨cs5, hb5⟩) (fun k hk => by rw [show k = b from hk]; exact HVR.out b (by rw [HE.out]; rfl)))
              have HPV := Lib.hid hv5
              have HO5 := Lib.hid (hO.trans ho5 fun k hk => by
                have h1 := HR2.out b j (HVR.out b (by rw [HE.out]; rfl))
                rw [show k = b from hk]
                exact h1.imp .inl id)
              have hsz5 := Nat.le_trans hsz ho5.size
              clear hS hv hO hth hv5 ho5 hb5
              go_wp2
              go_roundw
              case rel => exact ⟨p + 1, by omega, by go_num, HP.out, HPV.out, HO5.out, hsz5⟩
              case measure => simp only [intOf]; omega
            · have hpm2 : p = m := by omega
              subst hpm2
              have g2 : ¬ (p : Int) < (p : Int) := by omega
              have HS3 := Lib.hid hS
              have HD3 := Lib.hid (Done3.zero hv.full)
              have HO3 := Lib.hid hO
              clear hS hv hO
              go_wp2
              go_loopw [9, 11] (fun gv nv W' => ∃ (q : Nat) (Ag : Option Addr) (cg : Nat), q ≤ 9 ∧ nv = .int .i64 q ∧ gv = .slice Ag (p + q) cg ∧ St3 B N kb bk (.slice (some ⟨gl, 0, none⟩) i cl) (.slice Aw i cw) ks (j + 1) j gs (.slice A4 j c4) R2 W' ∧ Done3 B W' j (.slice Ae p ce) p gv q ∧ Only (fun k => c k = 5 ∨ c k = 6) W W' ∧ (∀ k, gv.ownBlock = some k → R2 k j) ∧ z1 ≤ W'.heap.size) (fun _ nv _ => 9 - (intOf nv).toNat)
              case atStart => exact ⟨0, Ae, ce, by omega, rfl, rfl, HS3.out, HD3.out, HO3.out, fun k hk => HVR.out k (by rw [HE.out, HM.out]; exact hk), hsz⟩
              case round =>
                obtain ⟨q, Ag, cg, hq, rfl, rfl, hS, hD, hO, hgr, hsz⟩ := hrel
                by_cases hq9 : q < 9
                · have g3 : (q : Int) < 9 := by omega
                  have hth := Three.new wr j (p + q)
                  rw [three_BC, Int.natCast_add] at hth
                  obtain ⟨us, hrow, hul, hus⟩ := hD.1
                  have HSX := Lib.hid hS
                  have HDX := Lib.hid hD
                  have HOX := Lib.hid hO
                  have HGX := Lib.hid hgr
                  have HUS := Lib.hid (show us.length = p + q ∧ ∀ j', ∀ u, us[j']? = some u → Three wr u j j' from ⟨hul, hus⟩)
                  have HTH := Lib.hid hth
                  have hBw : B ≤ wr.heap.size := Nat.le_trans hBW hO.size
                  have HNW := Lib.hid (show ∀ j' u', [Value.slice (some ⟨wr.heap.size, 0, none⟩) 3 3][j']? = some u' → ((wr.alloc (.cells #[.int .u8 ((j : Int) % 256), .int .u8 ((j : Int) / 256 % 256), .int .u8 (((p : Int) + (q : Int)) % 256)] 5)).alloc (.cells #[.slice (some ⟨wr.heap.size, 0, none⟩) 3 3] 39)).cell? ((⟨wr.heap.size + 1, 0, none⟩ : Addr).add j') = some u' from by
                    have := news_block (Blk.new (wr.alloc (.cells #[.int .u8 ((j : Int) % 256), .int .u8 ((j : Int) / 256 % 256), .int .u8 (((p : Int) + (q : Int)) % 256)] 5)) 39 [.slice (some ⟨wr.heap.size, 0, none⟩) 3 3])
                    rw [World.size_alloc] at this
                    exact this)
                  clear hS hD hO hgr hul hus hth
                  go_wp2_with (((with_reducible show wpList _ _ _ (Oper.mk _ (.call { callee := .builtin .append, args := _, argTypes := _ }) _ _ _ _ :: _) _ _); refine wpList_append_row2 rfl (.tmp 113) (.tmp 123) 31 rfl B 39 ir _ 24 Try.underlying31 hir hrz hrs hrb rfl (.slice Ag (p + q) cg) (p + q) us rfl (own_only hrow (((Only.refl Nil _).alloc _).alloc _) fun _ _ e => e) ⟨wr.heap.size + 1, 0, none⟩ 1 1 [.slice (some ⟨wr.heap.size, 0, none⟩) 3 3] rfl rfl HNW.out (by intro u hu; rw [List.mem_singleton.1 hu]; rfl) (by omega) (by unfold maxLen; omega) (by omega) (by simp; omega) ?_; intro g7 cap7 w7 hg7; have HGR := Lib.hid hg7; clear hg7))
                  have HE2 := Lib.hid (HSX.out.grew HDX.out HGX.out HUS.out (((Only.refl Nil wr).alloc _).alloc _) HGR.out hrow (HTH.out.keep ((Only.refl Nil _).alloc _) NoU.nil))
                  go_roundw
                  case rel => exact ⟨q + 1, some ⟨g7, 0, none⟩, cap7, by omega, by go_num, rfl, HE2.out.1, HE2.out.2.1, HOX.out.trans HE2.out.2.2.1 fun k hk => by
                      have h1 := HR2.out k j (HGX.out k hk)
                      exact h1.imp .inl id, fun k hk => by
                      obtain rfl : g7 = k := Option.some.inj hk
                      rcases HE2.out.2.2.2 with h | h
                      · exact HGX.out _ h
                      · exact HNEW.out _ (Nat.le_trans hsz h), Nat.le_trans hsz HE2.out.2.2.1.size⟩
                  case measure => simp only [intOf]; omega
                · have hq9' : q = 9 := by omega
                  subst hq9'
                  have HSX := Lib.hid hS
                  have HDX := Lib.hid hD
                  have HOX := Lib.hid hO
                  have HGX := Lib.hid hgr
                  have hNw : N ≤ wr.heap.size := by omega
                  clear hS hD hO hgr
                  go_wp2_with (((with_reducible show wpList _ _ _ (Oper.mk _ (.call { callee := .builtin .append, args := _, argTypes := _ }) _ _ _ _ :: _) _ _); refine wpList_append_row rfl (.tmp 125) (.tmp 127) 35 rfl N 31 ir3 _ 24 Try.underlying35 hir3 hrz3 hrs3 hrb3 rfl (.slice A4 j c4) j gs rfl (own_only HSX.out.grown ((Only.refl Nil _).alloc _) fun _ _ e => e) _ 1 1 [.slice Ag (p + 9) cg] rfl rfl (news_block (Blk.new _ _ _)) (by intro u hu; rw [List.mem_singleton.1 hu]; rfl) (by omega) (by unfold maxLen; omega) (by omega) (by simp; omega) ?_; intro g8 cap8 w8 hg8; have HGR := Lib.hid hg8; clear hg8))
                  have HE2 := Lib.hid (HSX.out.push HX.out (g := .slice Ag (p + 9) cg) (by
                    have := HDX.out
                    rw [HE.out, HM.out]
                    exact this) (fun k hk => hk.elim (fun h => HVR.out k h) fun h => HGX.out k h) ((Only.refl Nil _).alloc _) HGR.out)
                  go_roundw
                  case rel => exact ⟨j + 1, gs ++ [.slice Ag (p + 9) cg], R2, by omega, by go_num, HE2.out.1, HOX.out.trans HE2.out.2 fun k hk => .inr (Nat.le_trans (by have := (own_block HSX.out.grown k hk).1; omega) (Nat.le_refl _)), HR2.out, Nat.le_trans hNw HE2.out.2.size⟩
                  case measure => simp only [intOf]; omega
        · have hji : j = i := by omega
          subst hji
          have g2 : ¬ (j : Int) < (j : Int) := by omega
          have HS3 := Lib.hid hS
          clear hS hO hR HR HS0 HR0 HO0
          go_wp2
          go_loopw [12] (fun rv W' => ∃ r : Nat, r ≤ j ∧ rv = .int .i64 r ∧ Only Nil wr W') (fun rv _ => j - (intOf rv).toNat)
          case atStart => exact ⟨0, Nat.zero_le _, rfl, Only.refl _ _⟩
          case round =>
            obtain ⟨r, hr, rfl, ho5⟩ := hrel
            have hS5 := HS3.out.nil ho5
            have c1 : wr.cell? ⟨kb, 1, none⟩ = some (.slice Al j cl) := hS5.blk.cell 1
            have HO5 := Lib.hid ho5
            by_cases hri : r < j
            · obtain ⟨e, g, cg, A, cx, ga, ca, bg, cgg, hx, e1, e2, he, q0, q1, hg, hl⟩ := hS5.read HN.out hri
              injection e1 with e1 eln e1c
              injection e2 with e2 eln2 e2c
              clear eln eln2
              subst e1 e1c e2 e2c
              have hmx := (HKO.out e (List.mem_of_getElem? hx)).1
              rw [he] at q0
              obtain ⟨m, hm⟩ : ∃ m, e.es.length = m := ⟨_, rfl⟩
              rw [hm] at q0 q1 hg hl hmx
              have HG5 := Lib.hid hg
              have HL5 := Lib.hid hl
              have HQ1 := Lib.hid q1
              have g3 : (r : Int) < (j : Int) := by omega
              clear ho5 hS5 hx hg hl he hm
              go_wp2
              go_loopw [14] (fun pv W' => ∃ p : Nat, p ≤ m + 9 ∧ pv = .int .i64 p ∧ Only Nil wr W') (fun pv _ => m + 9 - (intOf pv).toNat)
              case atStart => exact ⟨0, Nat.zero_le _, rfl, Only.refl _ _⟩
              case round =>
                obtain ⟨p, hp, rfl, ho6⟩ := hrel
                have q1' := cell_nil ho6 HQ1.out
                have HO6 := Lib.hid ho6
                clear c1 q0 q1
                by_cases hpm : p < m + 9
                · have g4 : (p : Int) < (m : Int) + 9 := by omega
                  obtain ⟨u, q2, hth⟩ := HG5.out p hpm
                  obtain ⟨bu, rfl, hrd⟩ := hth.reads
                  have HQ2 := Lib.hid q2
                  have HRD := Lib.hid hrd
                  obtain ⟨bn, hbn, hrn⟩ := (Three.new wr r p).reads
                  injection hbn with hbn
                  injection hbn with hbn
                  injection hbn with hbn
                  rw [← hbn, three_BC] at hrn
                  have hs0 := str_of (P := Try.prog) (src := 39) (e := 5) (dst := 9) Try.underlying39 Try.underlying5 Try.underlying9 hrn
                  clear hth hrd q2 hrn hbn
                  go_upto_region 36 with fail
                  refine wp_gen (fun W6 => Only Nil wr W6) ((Only.refl Nil wr).alloc _) ?_
                  clear hs0 q1'
                  intro W6 ho7
                  have q1'' := cell_nil (HO6.out.then ho7) HQ1.out
                  have q2'' := cell_nil (HO6.out.then ho7) HQ2.out
                  have hs1 := str_of (P := Try.prog) (src := 39) (e := 5) (dst := 9) Try.underlying39 Try.underlying5 Try.underlying9 (HRD.out.only (HO6.out.then ho7) fun _ _ e => e)
                  have hs2 : ((str (three r p)).toList == (str (three r p)).toList) = true := by simp
                  have HO7 := Lib.hid (HO6.out.then ho7)
                  clear ho6
                  by_cases hpl : p < m
                  · obtain ⟨b, u', rfl, q3, hth'⟩ := HL5.out p hpl
                    obtain ⟨bv, rfl, hrd'⟩ := hth'.reads
                    have q3'' := cell_nil HO7.out q3
                    have hs3 := str_of (P := Try.prog) (src := 39) (e := 5) (dst := 9) Try.underlying39 Try.underlying5 Try.underlying9 (hrd'.only HO7.out fun _ _ e => e)
                    have g5 : (p : Int) < (m : Int) := by omega
                    clear ho7 hth' hrd' q3
                    generalize three r p = th at *
                    go_wp2
                    go_roundw
                    case rel => exact ⟨p + 1, by omega, by go_num, HO7.out⟩
                    case measure => simp only [intOf]; omega
                  · have g5 : ¬ (p : Int) < (m : Int) := by omega
                    clear ho7
                    generalize three r p = th at *
                    go_wp2
                    go_roundw
                    case rel => exact ⟨p + 1, by omega, by go_num, HO7.out⟩
                    case measure => simp only [intOf]; omega
                · have hpm2 : p = m + 9 := by omega
                  have g4 : ¬ (p : Int) < (m : Int) + 9 := by omega
                  clear ho6
                  go_wp2
                  go_roundw
                  case rel => exact ⟨r + 1, by omega, by go_num, HO5.out.then HO6.out⟩
                  case measure => simp only [intOf]; omega
            · have hri2 : r = j := by omega
              subst hri2
              clear ho5 hS5
              go_wp2
              go_ret
              exact ⟨rfl, HO2.out.trans HO5.out fun _ h => h.elim⟩
end
end Go.Proofs.Ytkkjnembjlgiaaa
