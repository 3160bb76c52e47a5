/-
  Are two lists of numbers the same (sameInts)? Do two lists that came out share no places (apart)?
-/
import Derived.Test.YthoaeolohnalnaaRl
import Derived.Deep.DeepCutAuto
namespace Go.Proofs.Ythoaeolohnalnaa
open Go.RowKit

theorem rv_cell {W : World} {v : Value} {L : List Int} (h : RV W v (IC L)) {j : Nat} (hj : j < L.length) : ∃ g o c, v = .slice (some ⟨g, o, none⟩) L.length c ∧ W.cell? ⟨g, o + j, none⟩ = some (.int .i64 (L.getD j 0)) := by
  obtain ⟨A, c, rfl, _, hr⟩ := h
  rw [IC_length] at *
  obtain ⟨g, o, rfl, hcell⟩ := hr (by omega)
  refine ⟨g, o, c, rfl, ?_⟩
  rw [hcell j hj]
  simp [IC, List.getD, hj]
theorem rv_form {W : World} {v : Value} {L : List Int} (h : RV W v (IC L)) : ∃ A c, v = .slice A L.length c := by
  obtain ⟨A, c, rfl, _, _⟩ := h
  exact ⟨A, c, by rw [IC_length]⟩
set_option maxHeartbeats 1600000 in
theorem sameInts_any (v v' : Value) (L : List Int) (w : World) (h : RV w v (IC L)) (h' : RV w v' (IC L)) (hn : L.length ≤ 1000000000000) :
    Calls Try.prog 21 #[v, v'] w fun r w' => r = .returned (.bool true) ∧ Only Nil w w' := by
  have H := Lib.hid h
  have H' := Lib.hid h'
  obtain ⟨A, c, rfl⟩ := rv_form h
  obtain ⟨A', c', rfl⟩ := rv_form h'
  clear h h'
  go_enter Try.func21, Try.ntmps21
  have hb : ((L.length : Int) != (L.length : Int)) = false := by simp
  go_upto_region 4 with fail
  go_loopw [5] (fun i wr => ∃ k : Nat, k ≤ L.length ∧ i = .int .i64 (k : Nat) ∧ Only Nil w wr) (fun i _ => L.length - (intOf i).toNat)
  case atStart => exact ⟨0, Nat.zero_le _, rfl, Only.refl _ _⟩
  case round =>
    obtain ⟨k, hk, rfl, hO⟩ := hrel
    have HO := Lib.hid hO
    by_cases hlt : k < L.length
    · obtain ⟨g, o, _, e, q0⟩ := rv_cell (H.out.only hO fun _ _ _ => id) hlt
      injection e with e1 _ e3
      subst e1 e3
      obtain ⟨g', o', _, e, q1⟩ := rv_cell (H'.out.only hO fun _ _ _ => id) hlt
      injection e with e1 _ e3
      subst e1 e3
      have g1 : (k : Int) < (L.length : Int) := by omega
      generalize L.getD k 0 = x at *
      have hxb : (x != x) = false := by simp
      clear hO
      go_upto_region 6 with fail
      go_quiet (fail)
      go_wp2
      go_roundw
      case rel => exact ⟨k + 1, by omega, by go_num, HO.out.drewN _⟩
      case measure => simp [intOf]; omega
    · have g1 : ¬ (k : Int) < (L.length : Int) := by omega
      clear hO
      go_wp2
      go_ret
      exact ⟨rfl, HO.out⟩

/-! ## apart -/
abbrev OwnI (W : World) (base : Nat) (v : Value) (n : Nat) (L : List Int) : Prop := W.ownsRow base 3 1 v n (IC L)
theorem own_set {W : World} {base : Nat} {g cap n i : Nat} {L : List Int} (h : OwnI W base (.slice (some ⟨g, 0, none⟩) n cap) n L) (x : Int) : OwnI (W.setCell ⟨g, i, none⟩ (.int .i64 x)) base (.slice (some ⟨g, 0, none⟩) n cap) n (L.set i x) := by
  obtain ⟨h1, h2⟩ := h
  rcases h2 with ⟨e, _⟩ | ⟨g', cap', cur, e, hb, hh, hc, hm, hs, ht⟩
  · cases e
  · injection e with e1 _ e3
    injection e1 with e1
    injection e1 with e1 _ _
    subst e1 e3
    have hset : IC (L.set i x) = (IC L).set i (.int .i64 x) := by simp [IC, List.map_set]
    refine ⟨by rw [hset, List.length_set]; exact h1, .inr ⟨g, cap, cur.setIfInBounds i (.int .i64 x), rfl, hb, ?_, hc, hm, by simpa using hs, ?_⟩⟩
    · simp [World.setCell, Array.getElem?_modify, hh]
    · rw [hset, ← ht, Array.toList_setIfInBounds, List.take_set]
theorem own_unfrozen {W : World} {base n g : Nat} {e : TypeId} {v : Value} {xs : List Value} (h : W.ownsRow base e 1 v n xs) (hg : v.ownBlock = some g) (i : Nat) : W.frozen? ⟨g, i, none⟩ = false := by
  rcases h.2 with ⟨rfl, _⟩ | ⟨g', cap, cur, rfl, _, hh, _⟩
  · cases hg
  · obtain rfl : g' = g := Option.some.inj hg
    simp [World.frozen?, hh]
theorem own_len {W : World} {base n : Nat} {v : Value} {L : List Int} (h : OwnI W base v n L) : L.length = n := by
  have := h.1
  rw [IC_length] at this
  omega
/-- Two rows that grow, and the two lists that they began as. -/
structure Apt (w W : World) (base n kc kd : Nat) (a b c d : Value) : Prop where
  oc : OwnI W base c (n + kc) (List.replicate (n + kc) (-5))
  od : OwnI W base d (n + kd) (List.replicate (n + kd) (-6))
  cd : ∀ g, c.ownBlock = some g → d.ownBlock = some g → False
  ra : RV W a (IC (List.replicate n (-5)))
  rb : RV W b (IC (List.replicate n (-6)))
  cb : ∀ g, c.ownBlock = some g → b.ownBlock = some g → False
  da : ∀ g, d.ownBlock = some g → a.ownBlock = some g → False
  on : Only (Ge base) w W
theorem rv_low {W : World} {v : Value} {vs : List Value} (h : RV W v vs) : 0 < vs.length → ∃ g, v.ownBlock = some g ∧ g < W.heap.size := by
  intro h0
  obtain ⟨A, c, rfl, _, hr⟩ := h
  obtain ⟨g, o, rfl, hcell⟩ := hr h0
  exact ⟨g, rfl, World.block_lt_of_cell? W _ (hcell 0 h0)⟩
theorem rv_grew {W w' : World} {base m : Nat} {c v : Value} {xs ys : List Value} {g cap n : Nat} {news : List Value} {o : Obj} (hg : Grew (W.alloc o) w' base 3 c n m xs news g cap) (h : RV W v ys)  (hold : ∀ g, c.ownBlock = some g → v.ownBlock = some g → ∃ k, (∃ c0, v = .slice (some ⟨g, 0, none⟩) k c0) ∧ ∀ j, j < ys.length → xs[j]? = ys[j]?) : RV w' v ys := by
  obtain ⟨A, c0, rfl, hc, hr⟩ := h
  refine ⟨A, c0, rfl, hc, fun h0 => ?_⟩
  obtain ⟨gv, ov, rfl, hcell⟩ := hr h0
  refine ⟨gv, ov, rfl, fun j hj => ?_⟩
  by_cases he : c.ownBlock = some gv
  · obtain ⟨k, ⟨c1, e⟩, hk⟩ := hold gv he rfl
    injection e with e1 _ _
    injection e1 with e1
    injection e1 with _ e1 _
    subst e1
    rw [Nat.zero_add]
    refine hg.old gv j _ he ?_
    rw [hk j hj, List.getD, List.getElem?_eq_getElem hj]
    rfl
  · exact (Only.of_grown (S := fun k => c.ownBlock = some k) hg.grown fun i hi => .inl hi).cell (((Only.refl Nil W).alloc o).cell (hcell j hj) id) he
theorem rep_get (m : Nat) (x : Int) {j : Nat} (hj : j < m) : (IC (List.replicate m x))[j]? = some (.int .i64 x) := by
  simp [IC, hj]
theorem rep_snoc (m : Nat) (x : Int) : IC (List.replicate m x) ++ IC [x] = IC (List.replicate (m + 1) x) := by
  rw [← List.replicate_append_replicate]
  simp [IC]
section
variable {w W w' : World} {base n kc kd g cap : Nat} {a b c d : Value} {o : Obj}
/-- One more behind the first row. -/
theorem Apt.first (h : Apt w W base n kc kd a b c d) (ha : ∀ g, a.ownBlock = some g → ∃ cp, a = .slice (some ⟨g, 0, none⟩) n cp) (hbl : ∀ g, b.ownBlock = some g → g < w.heap.size)
    (hg : Grew (W.alloc o) w' base 3 c (n + kc) 1 (IC (List.replicate (n + kc) (-5))) (IC [-5]) g cap) :
    Apt w w' base n (kc + 1) kd a b (.slice (some ⟨g, 0, none⟩) (n + (kc + 1)) cap) d := by
  have hOn : Only (fun k => c.ownBlock = some k) (W.alloc o) w' := Only.of_grown hg.grown fun i hi => .inl hi
  have hnew : ∀ x, (Value.slice (some ⟨g, 0, none⟩) (n + (kc + 1)) cap).ownBlock = some x → c.ownBlock = some x ∨ W.heap.size ≤ x := fun x hx => by
    obtain rfl : g = x := Option.some.inj hx
    rcases hg.at' with h | h
    · exact .inl h
    · exact .inr (by rw [h]; simp)
  have hcS : ∀ x, c.ownBlock = some x → base ≤ x := fun x hx => (own_block h.oc x hx).1
  have hon1 : Only (Ge base) W w' := ((Only.refl (Ge base) W).alloc o).trans hOn fun i hi => .inl (hcS i hi)
  refine ⟨?_, ?_, fun x hx hd => ?_, ?_, ?_, fun x hx hd => ?_, h.da, h.on.then hon1⟩
  · have := hg.own
    rw [rep_snoc] at this
    exact this
  · exact own_only (own_only h.od ((Only.refl Nil W).alloc o) fun _ _ => id) hOn fun x hx hc => h.cd x hc hx
  · rcases hnew x hx with hc | hl
    · exact h.cd x hc hd
    · have := (own_block h.od x hd).2
      omega
  · refine rv_grew hg h.ra fun x hc hx => ?_
    obtain ⟨cp, e⟩ := ha x hx
    refine ⟨_, ⟨cp, e⟩, fun j hj => ?_⟩
    rw [IC_length, List.length_replicate] at hj
    rw [rep_get _ _ (by omega), rep_get _ _ hj]
  · exact rv_grew hg h.rb fun x hc hx => (h.cb x hc hx).elim
  · rcases hnew x hx with hc | hl
    · exact h.cb x hc hd
    · have := hbl x hd
      have := h.on.size
      omega
/-- One more behind the second row. -/
theorem Apt.second (h : Apt w W base n kc kd a b c d) (ha : ∀ g, b.ownBlock = some g → ∃ cp, b = .slice (some ⟨g, 0, none⟩) n cp) (hbl : ∀ g, a.ownBlock = some g → g < w.heap.size)
    (hg : Grew (W.alloc o) w' base 3 d (n + kd) 1 (IC (List.replicate (n + kd) (-6))) (IC [-6]) g cap) :
    Apt w w' base n kc (kd + 1) a b c (.slice (some ⟨g, 0, none⟩) (n + (kd + 1)) cap) := by
  have hOn : Only (fun k => d.ownBlock = some k) (W.alloc o) w' := Only.of_grown hg.grown fun i hi => .inl hi
  have hnew : ∀ x, (Value.slice (some ⟨g, 0, none⟩) (n + (kd + 1)) cap).ownBlock = some x → d.ownBlock = some x ∨ W.heap.size ≤ x := fun x hx => by
    obtain rfl : g = x := Option.some.inj hx
    rcases hg.at' with h | h
    · exact .inl h
    · exact .inr (by rw [h]; simp)
  have hcS : ∀ x, d.ownBlock = some x → base ≤ x := fun x hx => (own_block h.od x hx).1
  have hon1 : Only (Ge base) W w' := ((Only.refl (Ge base) W).alloc o).trans hOn fun i hi => .inl (hcS i hi)
  refine ⟨?_, ?_, fun x hd hx => ?_, ?_, ?_, h.cb, fun x hx hd => ?_, h.on.then hon1⟩
  · exact own_only (own_only h.oc ((Only.refl Nil W).alloc o) fun _ _ => id) hOn fun x hx hc => h.cd x hx hc
  · have := hg.own
    rw [rep_snoc] at this
    exact this
  · rcases hnew x hx with hc | hl
    · exact h.cd x hd hc
    · have := (own_block h.oc x hd).2
      omega
  · exact rv_grew hg h.ra fun x hc hx => (h.da x hc hx).elim
  · refine rv_grew hg h.rb fun x hc hx => ?_
    obtain ⟨cp, e⟩ := ha x hx
    refine ⟨_, ⟨cp, e⟩, fun j hj => ?_⟩
    rw [IC_length, List.length_replicate] at hj
    rw [rep_get _ _ (by omega), rep_get _ _ hj]
  · rcases hnew x hx with hc | hl
    · exact h.da x hc hd
    · have := hbl x hd
      have := h.on.size
      omega
end
theorem filled {L : List Int} {n : Nat} {x : Int} (hl : L.length = n) (h : ∀ j, j < n → L.getD j 0 = x) : L = List.replicate n x := by
  refine List.ext_getElem (by simp [hl]) fun j h1 h2 => ?_
  have := h j (by omega)
  rw [List.getD, List.getElem?_eq_getElem h1] at this
  simpa using this
set_option maxHeartbeats 3200000 in
set_option maxRecDepth 100000 in
theorem apart_any (base n : Nat) (a b : Value) (L : List Int) (w : World) (ha : OwnI w base a n L) (hb : OwnI w base b n L) (hab : ∀ g, a.ownBlock = some g → b.ownBlock = some g → False) (hbase : base ≤ w.heap.size) (hn : n ≤ 1000000000000) :
    Calls Try.prog 22 #[a, b] w fun r w' => r = .returned (.bool true) ∧ Only (Ge base) w w' := by
  have HA := Lib.hid ha
  have HB := Lib.hid hb
  have HAB := Lib.hid hab
  have ea : ∃ A c, a = .slice A n c := by
    rcases ha.2 with ⟨rfl, h0⟩ | ⟨g, cap, cur, rfl, _⟩
    · exact ⟨none, 0, by rw [h0]⟩
    · exact ⟨_, _, rfl⟩
  have eb : ∃ A c, b = .slice A n c := by
    rcases hb.2 with ⟨rfl, h0⟩ | ⟨g, cap, cur, rfl, _⟩
    · exact ⟨none, 0, by rw [h0]⟩
    · exact ⟨_, _, rfl⟩
  have HFA := Lib.hid (show ∀ g, a.ownBlock = some g → ∃ cp, a = .slice (some ⟨g, 0, none⟩) n cp from fun g hg => by
    rcases ha.2 with ⟨rfl, h0⟩ | ⟨g', cap, cur, rfl, _⟩
    · cases hg
    · obtain rfl : g' = g := Option.some.inj hg
      exact ⟨_, rfl⟩)
  have HFB := Lib.hid (show ∀ g, b.ownBlock = some g → ∃ cp, b = .slice (some ⟨g, 0, none⟩) n cp from fun g hg => by
    rcases hb.2 with ⟨rfl, h0⟩ | ⟨g', cap, cur, rfl, _⟩
    · cases hg
    · obtain rfl : g' = g := Option.some.inj hg
      exact ⟨_, rfl⟩)
  have HLA := Lib.hid (show ∀ g, a.ownBlock = some g → g < w.heap.size from fun g hg => (own_block ha g hg).2)
  have HLB := Lib.hid (show ∀ g, b.ownBlock = some g → g < w.heap.size from fun g hg => (own_block hb g hg).2)
  clear ha hb hab
  obtain ⟨A, ca, rfl⟩ := ea
  obtain ⟨B, cb, rfl⟩ := eb
  go_enter Try.func22, Try.ntmps22
  go_upto_region 2 with fail
  go_loopw [5] (fun i wr => ∃ (k : Nat) (L1 : List Int), k ≤ n ∧ i = .int .i64 (k : Nat) ∧ OwnI wr base (.slice A n ca) n L1 ∧ (∀ j, j < k → L1.getD j 0 = -5) ∧ OwnI wr base (.slice B n cb) n L ∧ Only (Ge base) w wr) (fun i _ => n - (intOf i).toNat)
  case atStart => exact ⟨0, L, Nat.zero_le _, rfl, HA.out, fun j hj => absurd hj (by omega), HB.out, Only.refl _ _⟩
  case round =>
    obtain ⟨k, L1, hk, rfl, ha, hf, hb, hO⟩ := hrel
    have HO := Lib.hid hO
    have HF := Lib.hid hf
    have HA1 := Lib.hid ha
    have HB1 := Lib.hid hb
    by_cases hlt : k < n
    · have g1 : (k : Int) < (n : Int) := by omega
      obtain ⟨g, cap, e, _, _, _, hcell⟩ := own_form ha (by omega)
      injection e with e1 _ e3
      subst e1 e3
      have c0 := hcell k hlt
      have z0 := own_unfrozen ha rfl k
      have hgb := (own_block ha g rfl).1
      have HS := Lib.hid (show OwnI (wr.setCell ⟨g, k, none⟩ (.int .i64 (-5))) base (.slice (some ⟨g, 0, none⟩) n ca) n (L1.set k (-5)) ∧ (∀ j, j < k + 1 → (L1.set k (-5)).getD j 0 = -5) ∧ OwnI (wr.setCell ⟨g, k, none⟩ (.int .i64 (-5))) base (.slice B n cb) n L ∧ Only (Ge base) w (wr.setCell ⟨g, k, none⟩ (.int .i64 (-5))) from by
        refine ⟨own_set ha _, fun j hj => ?_, own_only hb ((Only.refl (One g) wr).setCell (p := ⟨g, k, none⟩) (.inl (One.self g)) _) (fun x hx h => HAB.out g rfl (by rw [hx, show x = g from h])), hO.setCell (p := ⟨g, k, none⟩) (.inl hgb) _⟩
        have hl := own_len ha
        by_cases hjk : j = k
        · subst hjk
          simp [List.getD, hl, hlt]
        · have := hf j (by omega)
          rw [List.getD, List.getElem?_set_ne (Ne.symm hjk)]
          exact this)
      clear ha hb hO hf hcell
      go_wp2
      go_roundw
      case rel => exact ⟨k + 1, _, by omega, by go_num, HS.out⟩
      case measure => simp [intOf]; omega
    · have g1 : ¬ (k : Int) < (n : Int) := by omega
      obtain rfl := filled (own_len ha) (fun j hj => hf j (by omega))
      clear ha hb hO hf
      go_upto_region 6 with fail
      go_loopw [6] (fun i wr => ∃ (k : Nat) (L1 : List Int), k ≤ n ∧ i = .int .i64 (k : Nat) ∧ OwnI wr base (.slice B n cb) n L1 ∧ (∀ j, j < k → L1.getD j 0 = -6) ∧ OwnI wr base (.slice A n ca) n (List.replicate n (-5)) ∧ Only (Ge base) w wr) (fun i _ => n - (intOf i).toNat)
      case atStart => exact ⟨0, L, Nat.zero_le _, rfl, HB1.out, fun j hj => absurd hj (by omega), HA1.out, HO.out⟩
      case round =>
        clear HO HF HA1 HB1 g1 hk hlt
        obtain ⟨k, L1, hk, rfl, hb, hf, ha, hO⟩ := hrel
        have HO := Lib.hid hO
        have HA1 := Lib.hid ha
        have HB1 := Lib.hid hb
        by_cases hlt : k < n
        · have g1 : (k : Int) < (n : Int) := by omega
          obtain ⟨g, cap, e, _, _, _, hcell⟩ := own_form hb (by omega)
          injection e with e1 _ e3
          subst e1 e3
          have c0 := hcell k hlt
          have z0 := own_unfrozen hb rfl k
          have hgb := (own_block hb g rfl).1
          have HS := Lib.hid (show OwnI (wr.setCell ⟨g, k, none⟩ (.int .i64 (-6))) base (.slice (some ⟨g, 0, none⟩) n cb) n (L1.set k (-6)) ∧ (∀ j, j < k + 1 → (L1.set k (-6)).getD j 0 = -6) ∧ OwnI (wr.setCell ⟨g, k, none⟩ (.int .i64 (-6))) base (.slice A n ca) n (List.replicate n (-5)) ∧ Only (Ge base) w (wr.setCell ⟨g, k, none⟩ (.int .i64 (-6))) from by
            refine ⟨own_set hb _, fun j hj => ?_, own_only ha ((Only.refl (One g) wr).setCell (p := ⟨g, k, none⟩) (.inl (One.self g)) _) (fun x hx h => HAB.out x hx (by rw [show x = g from h]; rfl)), hO.setCell (p := ⟨g, k, none⟩) (.inl hgb) _⟩
            have hl := own_len hb
            by_cases hjk : j = k
            · subst hjk
              simp [List.getD, hl, hlt]
            · have := hf j (by omega)
              rw [List.getD, List.getElem?_set_ne (Ne.symm hjk)]
              exact this)
          clear ha hb hO hf hcell HO HA1 HB1
          go_wp2
          go_roundw
          case rel => exact ⟨k + 1, _, by omega, by go_num, HS.out⟩
          case measure => simp [intOf]; omega
        · have g1 : ¬ (k : Int) < (n : Int) := by omega
          obtain rfl := filled (own_len hb) (fun j hj => hf j (by omega))
          have HApt := Lib.hid (show Apt w wr base n 0 0 (.slice A n ca) (.slice B n cb) (.slice A n ca) (.slice B n cb) from
            ⟨ha, hb, HAB.out, own_reads ha, own_reads hb, HAB.out, fun g h1 h2 => HAB.out g h2 h1, hO⟩)
          clear ha hb hO hf HO HA1 HB1
          go_upto_region 12 with fail
          go_loopw [7, 8, 9] (fun c d i wr => ∃ (k : Nat) (c1 d1 : Value), k ≤ 9 ∧ i = .int .i64 (k : Nat) ∧ c1 = c ∧ d1 = d ∧ Apt w wr base n k k (.slice A n ca) (.slice B n cb) c1 d1) (fun _ _ i _ => 9 - (intOf i).toNat)
          case atStart => exact ⟨0, _, _, Nat.zero_le _, rfl, rfl, rfl, HApt.out⟩
          case round =>
            clear HApt g1 hk hlt
            obtain ⟨k, c1, d1, hk, rfl, rfl, rfl, hP⟩ := hrel
            have HP := Lib.hid hP
            clear hP
            obtain ⟨ii, hii, hiz, his, hib⟩ := info_parts info_int
            by_cases hlt : k < 9
            · have g1 : (k : Int) < 9 := by omega
              have hwr := HP.out.on.size
              go_upto_region 15 with ((with_reducible show wpList _ _ _ (Oper.mk _ (.call { callee := .builtin .append, args := _, argTypes := _ }) _ _ _ _ :: _) _ _); refine wpList_append_row (by rfl) _ _ _ (by rfl) base 3 ii _ 8 Try.underlying49 hii hiz his hib rfl _ (n + k) (IC (List.replicate (n + k) (-5))) (by rfl) (own_only HP.out.oc ((Only.refl Nil _).alloc _) fun _ _ => id) ⟨wr.heap.size, 0, none⟩ 1 1 (IC [-5]) (by rfl) (by rfl) (news_block (Blk.new wr 3 (IC [-5]))) (IC_one _) (by omega) (by unfold maxLen; omega) (by omega) (by simp; omega) ?_; intro g6 cap6 w6 hg6; have HG6 := Lib.hid hg6; clear hg6)
              have HQ := Lib.hid (HP.out.first HFA.out HLB.out HG6.out)
              have hw6 := HQ.out.on.size
              clear HP HG6 hwr
              go_wp2_with ((with_reducible show wpList _ _ _ (Oper.mk _ (.call { callee := .builtin .append, args := _, argTypes := _ }) _ _ _ _ :: _) _ _); refine wpList_append_row (by rfl) _ _ _ (by rfl) base 3 ii _ 8 Try.underlying49 hii hiz his hib rfl _ (n + k) (IC (List.replicate (n + k) (-6))) (by rfl) (own_only HQ.out.od ((Only.refl Nil _).alloc _) fun _ _ => id) ⟨w6.heap.size, 0, none⟩ 1 1 (IC [-6]) (by rfl) (by rfl) (news_block (Blk.new w6 3 (IC [-6]))) (IC_one _) (by omega) (by unfold maxLen; omega) (by omega) (by simp; omega) ?_; intro g7 cap7 w7 hg7; have HG7 := Lib.hid hg7; clear hg7)
              have HR := Lib.hid (HQ.out.second HFB.out HLA.out HG7.out)
              clear HQ HG7 hw6
              go_roundw
              case rel => exact ⟨k + 1, _, _, by omega, by go_num, rfl, rfl, HR.out⟩
              case measure => simp [intOf]; omega
            · obtain rfl : k = 9 := by omega
              obtain ⟨gc, cc, rfl, _, _, _, hcc⟩ := own_form HP.out.oc (by omega)
              obtain ⟨gd, cd, rfl, _, _, _, hcd⟩ := own_form HP.out.od (by omega)
              have HCC := Lib.hid (show ∀ j, j < n + 9 → wr.cell? ⟨gc, j, none⟩ = some (.int .i64 (-5)) from fun j hj => by
                rw [hcc j hj]
                simp [IC, List.getD, hj])
              have HCD := Lib.hid (show ∀ j, j < n + 9 → wr.cell? ⟨gd, j, none⟩ = some (.int .i64 (-6)) from fun j hj => by
                rw [hcd j hj]
                simp [IC, List.getD, hj])
              clear hcc hcd hlt hk HA HB HAB
              go_upto_region 17 with fail
              go_loopw [10] (fun i wx => ∃ j : Nat, j ≤ n + 9 ∧ i = .int .i64 (j : Nat) ∧ wr = wx) (fun i _ => n + 9 - (intOf i).toNat)
              case atStart => exact ⟨0, Nat.zero_le _, rfl, rfl⟩
              case round =>
                obtain ⟨j, hj, rfl, rfl⟩ := hrel
                by_cases hlj : j < n + 9
                · have g1 : (j : Int) < (n : Int) + 9 := by omega
                  have q0 := HCC.out j hlj
                  have hz : ((-5 : Int) != -5) = false := by decide
                  by_cases hjn : j < n
                  · have g2 : (j : Int) < (n : Int) := by omega
                    obtain ⟨g', o', _, e, q1⟩ := rv_cell HP.out.ra (L := List.replicate n (-5)) (j := j) (by simpa using hjn)
                    have hx : (List.replicate n (-5 : Int)).getD j 0 = -5 := by simp [List.getD, hjn]
                    rw [hx] at q1
                    injection e with e1 e2 e3
                    subst e1
                    clear hx e2
                    go_wp2
                    go_roundw
                    case rel => exact ⟨j + 1, by omega, by go_num, trivial⟩
                    case measure => simp [intOf]; omega
                  · have g2 : ¬ (j : Int) < (n : Int) := by omega
                    go_wp2
                    go_roundw
                    case rel => exact ⟨j + 1, by omega, by go_num, trivial⟩
                    case measure => simp [intOf]; omega
                · have g1 : ¬ (j : Int) < (n : Int) + 9 := by omega
                  clear hj hlj
                  go_upto_region 22 with fail
                  go_loopw [11] (fun i wx => ∃ j : Nat, j ≤ n + 9 ∧ i = .int .i64 (j : Nat) ∧ wr = wx) (fun i _ => n + 9 - (intOf i).toNat)
                  case atStart => exact ⟨0, Nat.zero_le _, rfl, rfl⟩
                  case round =>
                    obtain ⟨j, hj, rfl, rfl⟩ := hrel
                    by_cases hlj : j < n + 9
                    · have g1 : (j : Int) < (n : Int) + 9 := by omega
                      have q0 := HCD.out j hlj
                      have hz : ((-6 : Int) != -6) = false := by decide
                      by_cases hjn : j < n
                      · have g2 : (j : Int) < (n : Int) := by omega
                        obtain ⟨g', o', _, e, q1⟩ := rv_cell HP.out.rb (L := List.replicate n (-6)) (j := j) (by simpa using hjn)
                        have hx : (List.replicate n (-6 : Int)).getD j 0 = -6 := by simp [List.getD, hjn]
                        rw [hx] at q1
                        injection e with e1 e2 e3
                        subst e1
                        clear hx e2
                        go_wp2
                        go_roundw
                        case rel => exact ⟨j + 1, by omega, by go_num, trivial⟩
                        case measure => simp [intOf]; omega
                      · have g2 : ¬ (j : Int) < (n : Int) := by omega
                        go_wp2
                        go_roundw
                        case rel => exact ⟨j + 1, by omega, by go_num, trivial⟩
                        case measure => simp [intOf]; omega
                    · have g1 : ¬ (j : Int) < (n : Int) + 9 := by omega
                      go_wp2
                      go_ret
                      exact ⟨rfl, HP.out.on⟩
end Go.Proofs.Ythoaeolohnalnaa
