/-
  HoldPlays: a call at both (step), the other kinds; all of them; last. PRINTED by wip/tools/gen_hstep.py.
-/
import Derived.Test.YthkongkbefpilaaDoorHy
namespace Go.Proofs.YthkongkbefpilaaDoor
set_option maxRecDepth 100000
open Go.RowKit Sha

section
variable {B : Nat} {a0 a1 : Addr} {W : World} {FH FX FK : Nat → Prop} {kb h x : Nat} {s : HS} {ls : List Ls}
set_option maxHeartbeats 3200000 in
theorem step_reset (S0 : Set0 B a0 a1 W FH FX FK kb h x s ls) (y : Value) :
    Calls Tryd.prog 14 #[.pointer (some ⟨kb, 0, none⟩), .pointer (some ⟨h, 0, none⟩), .pointer (some ⟨x, 0, none⟩), .agg #[.int .i64 2, y]] W fun e W' => e = .returned (.bool true) ∧ After B W FH FX FK kb h x 1 ls W' := by
  obtain ⟨b, hbz⟩ : ∃ b, W.heap.size = b := ⟨_, rfl⟩
  have H0 := Lib.hid S0
  have HX := Lib.hid (show Blk (W.alloc (.cells #[.int .i64 2, y] 42)) b 42 [.int .i64 2, y] from hbz ▸ Blk.new W _ _)
  clear S0
  go_enter Tryd.func14, Tryd.ntmps14
  go_upto_region 1 with fail
  (try rw [hbz])
  refine wp_gen (fun W1 => Only Nil W W1 ∧ Blk W1 b 42 [.int .i64 2, y]) ⟨(Only.refl _ _).alloc _, HX.out⟩ ?_
  clear HX hbz
  rintro W1 ⟨hO1, hX1⟩
  have HO1 := Lib.hid hO1
  have HS1 := Lib.hid (H0.out.nil hO1)
  have x0 : W1.cell? ⟨b, 0, none⟩ = some (.int .i64 2) := hX1.cell 0
  clear hO1 hX1
  have HC := Lib.hid (Reset_any HS1.out.pair.hold HS1.out.errs)
  obtain ⟨z, hz⟩ : ∃ z : Int, (s.open' : Int) = z := ⟨_, rfl⟩
  have HZ := Lib.hid hz
  rw [hz] at HC
  clear hz
  go_wp2_with (first
    | (go_at_call 18; refine HC.out.mono ?_; rintro e W2 ⟨rfl, hd2⟩; have HD2 := Lib.hid hd2; clear hd2)
    | (go_at_call 27; refine (rreset_any (HS1.out.pair.first HD2.out).2.1).mono ?_; rintro e W3 ⟨rfl, hd3⟩; rw [HZ.out]; have HD3 := Lib.hid hd3; clear hd3))
  go_ret
  exact ⟨rfl, H0.out.both HO1.out HD2.out (Only.refl _ _) HD3.out (T := Nil) (fun k e => e.elim) (Only.refl _ _)⟩
set_option maxHeartbeats 3200000 in
theorem step_seal (S0 : Set0 B a0 a1 W FH FX FK kb h x s ls) (y : Value) :
    Calls Tryd.prog 14 #[.pointer (some ⟨kb, 0, none⟩), .pointer (some ⟨h, 0, none⟩), .pointer (some ⟨x, 0, none⟩), .agg #[.int .i64 3, y]] W fun e W' => e = .returned (.bool true) ∧ After B W FH FX FK kb h x 1 ls W' := by
  obtain ⟨b, hbz⟩ : ∃ b, W.heap.size = b := ⟨_, rfl⟩
  have H0 := Lib.hid S0
  have HX := Lib.hid (show Blk (W.alloc (.cells #[.int .i64 3, y] 42)) b 42 [.int .i64 3, y] from hbz ▸ Blk.new W _ _)
  clear S0
  go_enter Tryd.func14, Tryd.ntmps14
  go_upto_region 1 with fail
  (try rw [hbz])
  refine wp_gen (fun W1 => Only Nil W W1 ∧ Blk W1 b 42 [.int .i64 3, y]) ⟨(Only.refl _ _).alloc _, HX.out⟩ ?_
  clear HX hbz
  rintro W1 ⟨hO1, hX1⟩
  have HO1 := Lib.hid hO1
  have HS1 := Lib.hid (H0.out.nil hO1)
  have x0 : W1.cell? ⟨b, 0, none⟩ = some (.int .i64 3) := hX1.cell 0
  clear hO1 hX1
  have HC := Lib.hid (Seal_any HS1.out.pair.hold HS1.out.errs)
  have HR := Lib.hid (fun (w2 : World) (hr : IsRef B w2 FX x s) => rSeal_any hr)
  obtain ⟨z, hz⟩ : ∃ z : Int, (s.open' : Int) = z := ⟨_, rfl⟩
  obtain ⟨q, hq⟩ : ∃ q : Bool, (s.right && !s.shut) = q := ⟨_, rfl⟩
  rw [hz, hq] at HC HR
  clear hz hq
  go_wp2_with (first
    | (go_at_call 19; refine HC.out.mono ?_; rintro e W2 ⟨rfl, hd2⟩; have HD2 := Lib.hid hd2; clear hd2)
    | (go_at_call 28; refine (HR.out _ (HS1.out.pair.first HD2.out).2.1).mono ?_; rintro e W3 ⟨rfl, hd3⟩; have HD3 := Lib.hid hd3; clear hd3))
  go_ret
  exact ⟨rfl, H0.out.both HO1.out HD2.out (Only.refl _ _) HD3.out (T := Nil) (fun k e => e.elim) (Only.refl _ _)⟩
set_option maxHeartbeats 3200000 in
theorem step_len (S0 : Set0 B a0 a1 W FH FX FK kb h x s ls) (y : Value) :
    Calls Tryd.prog 14 #[.pointer (some ⟨kb, 0, none⟩), .pointer (some ⟨h, 0, none⟩), .pointer (some ⟨x, 0, none⟩), .agg #[.int .i64 4, y]] W fun e W' => e = .returned (.bool true) ∧ After B W FH FX FK kb h x 1 ls W' := by
  obtain ⟨b, hbz⟩ : ∃ b, W.heap.size = b := ⟨_, rfl⟩
  have H0 := Lib.hid S0
  have HX := Lib.hid (show Blk (W.alloc (.cells #[.int .i64 4, y] 42)) b 42 [.int .i64 4, y] from hbz ▸ Blk.new W _ _)
  clear S0
  go_enter Tryd.func14, Tryd.ntmps14
  go_upto_region 1 with fail
  (try rw [hbz])
  refine wp_gen (fun W1 => Only Nil W W1 ∧ Blk W1 b 42 [.int .i64 4, y]) ⟨(Only.refl _ _).alloc _, HX.out⟩ ?_
  clear HX hbz
  rintro W1 ⟨hO1, hX1⟩
  have HO1 := Lib.hid hO1
  have HS1 := Lib.hid (H0.out.nil hO1)
  have x0 : W1.cell? ⟨b, 0, none⟩ = some (.int .i64 4) := hX1.cell 0
  clear hO1 hX1
  have HC1 := Lib.hid (len_any HS1.out.pair.hold)
  have HC2 := Lib.hid (rlen_any HS1.out.pair.ref)
  have HC3 := Lib.hid (most_any HS1.out.pair.hold)
  have HC4 := Lib.hid (rmost_any HS1.out.pair.ref)
  go_wp2_with (first
    | (go_at_call 11; refine HC1.out.mono ?_; rintro e W2 ⟨rfl, rfl⟩)
    | (go_at_call 29; refine HC2.out.mono ?_; rintro e W2 ⟨rfl, rfl⟩)
    | (go_at_call 10; refine HC3.out.mono ?_; rintro e W2 ⟨rfl, rfl⟩)
    | (go_at_call 30; refine HC4.out.mono ?_; rintro e W2 ⟨rfl, rfl⟩))
  go_ret
  exact ⟨rfl, H0.out.same HO1.out⟩
set_option maxHeartbeats 3200000 in
theorem step_sum (S0 : Set0 B a0 a1 W FH FX FK kb h x s ls) (y : Value) :
    Calls Tryd.prog 14 #[.pointer (some ⟨kb, 0, none⟩), .pointer (some ⟨h, 0, none⟩), .pointer (some ⟨x, 0, none⟩), .agg #[.int .i64 5, y]] W fun e W' => e = .returned (.bool true) ∧ After B W FH FX FK kb h x 1 ls W' := by
  obtain ⟨b, hbz⟩ : ∃ b, W.heap.size = b := ⟨_, rfl⟩
  have H0 := Lib.hid S0
  have HX := Lib.hid (show Blk (W.alloc (.cells #[.int .i64 5, y] 42)) b 42 [.int .i64 5, y] from hbz ▸ Blk.new W _ _)
  clear S0
  go_enter Tryd.func14, Tryd.ntmps14
  go_upto_region 1 with fail
  (try rw [hbz])
  refine wp_gen (fun W1 => Only Nil W W1 ∧ Blk W1 b 42 [.int .i64 5, y]) ⟨(Only.refl _ _).alloc _, HX.out⟩ ?_
  clear HX hbz
  rintro W1 ⟨hO1, hX1⟩
  have HO1 := Lib.hid hO1
  have HS1 := Lib.hid (H0.out.nil hO1)
  have x0 : W1.cell? ⟨b, 0, none⟩ = some (.int .i64 5) := hX1.cell 0
  clear hO1 hX1
  have HC1 := Lib.hid (hold_sum_any HS1.out.pair.hold)
  have eqs : ∀ W, (Op.equalIn 10000 23 (.agg (BC (sha s.img)).toArray) (.agg (BC (sha s.img)).toArray)).run Tryd.prog W = .ok true W := fun W => by
    have := equal32 W _ _ (sha_length s.img) (sha_length s.img)
    rwa [beq_self_eq_true] at this
  go_wp2_with (first
    | (go_at_call 22; refine HC1.out.mono ?_; rintro e W2 ⟨rfl, ho2⟩; have HO2 := Lib.hid ho2; clear ho2)
    | (go_at_call 31; refine (hrsum_any (HS1.out.nil HO2.out).pair.ref).mono ?_; rintro e W3 ⟨rfl, ho3⟩; have HO3 := Lib.hid ho3; clear ho3))
  go_ret
  exact ⟨rfl, H0.out.same ((HO1.out.then HO2.out).then HO3.out)⟩
set_option maxHeartbeats 3200000 in
theorem step_bytes (S0 : Set0 B a0 a1 W FH FX FK kb h x s ls) (y : Value) :
    Calls Tryd.prog 14 #[.pointer (some ⟨kb, 0, none⟩), .pointer (some ⟨h, 0, none⟩), .pointer (some ⟨x, 0, none⟩), .agg #[.int .i64 6, y]] W fun e W' => e = .returned (.bool true) ∧ After B W FH FX FK kb h x 1 ls W' := by
  obtain ⟨b, hbz⟩ : ∃ b, W.heap.size = b := ⟨_, rfl⟩
  have H0 := Lib.hid S0
  have HX := Lib.hid (show Blk (W.alloc (.cells #[.int .i64 6, y] 42)) b 42 [.int .i64 6, y] from hbz ▸ Blk.new W _ _)
  clear S0
  go_enter Tryd.func14, Tryd.ntmps14
  go_upto_region 1 with fail
  (try rw [hbz])
  refine wp_gen (fun W1 => Only Nil W W1 ∧ Blk W1 b 42 [.int .i64 6, y]) ⟨(Only.refl _ _).alloc _, HX.out⟩ ?_
  clear HX hbz
  rintro W1 ⟨hO1, hX1⟩
  have HO1 := Lib.hid hO1
  have HS1 := Lib.hid (H0.out.nil hO1)
  have x0 : W1.cell? ⟨b, 0, none⟩ = some (.int .i64 6) := hX1.cell 0
  clear hO1 hX1
  have HC1 := Lib.hid (Bytes_any HS1.out.pair.hold)
  go_upto_region 20 with (go_at_call 21; refine HC1.out.mono ?_; rintro e W2 ⟨u, rfl, hu2, ho2⟩)
  obtain ⟨Au, cu, rfl⟩ := own_slice1 hu2
  have HU := Lib.hid hu2
  have HO2 := Lib.hid ho2
  have HS2 := Lib.hid (HS1.out.nil ho2)
  obtain ⟨v, hA⟩ := HS2.out.pair.ref.at'
  obtain ⟨Av, cv, rfl⟩ := own_slice1 hA.row
  have c0 := hA.c0
  have hm : s.img.length ≤ 16777216 := by have := hA.ok.room; have := hA.ok.most; omega
  have s0 : ∀ j, (convert 26 9 (.slice Au s.img.length cu)).run Tryd.prog (W2.drewN j) = .ok (.string (str s.img)) (W2.drewN j) := fun j => str_of (P := Tryd.prog) (src := 26) (e := 5) (dst := 9) Tryd.underlying26 Tryd.underlying5 Tryd.underlying9 ((OwnB.reads' hu2).drewN j)
  have s1 : ∀ j, (convert 26 9 (.slice Av s.img.length cv)).run Tryd.prog (W2.drewN j) = .ok (.string (str s.img)) (W2.drewN j) := fun j => str_of (P := Tryd.prog) (src := 26) (e := 5) (dst := 9) Tryd.underlying26 Tryd.underlying5 Tryd.underlying9 ((OwnB.reads' hA.row).drewN j)
  have hs2 : ((str s.img).toList == (str s.img).toList) = true := by simp
  clear hu2 ho2 hA HC1
  go_quiet (fail)
  have HO3 := Lib.hid (HO2.out.drewN nq)
  have HT := Lib.hid (take_any ((HS1.out.nil HO3.out).book) (.slice Au s.img.length cu) s.img ((show OwnB W1.heap.size (W2.drewN nq) _ _ from HU.out).low HS1.out.book.base) (fun k hk e => by
    have h1 := (own_block (show W2.ownsRow W1.heap.size 5 1 (.slice Au s.img.length cu) s.img.length (BC s.img) from HU.out) k hk).1
    have h2 := (HS1.out.book.own k e).2
    omega) (by have := H0.out.len; omega))
  clear s0 s1 c0
  go_wp2_with (go_at_call 32; refine HT.out.mono ?_; rintro e W4 ⟨rfl, ho4, GK, hG, hk⟩)
  go_ret
  exact ⟨rfl, H0.out.took (HO1.out.then HO3.out) (fun k hk => by
    have h1 := (own_block (show W2.ownsRow W1.heap.size 5 1 (.slice Au s.img.length cu) s.img.length (BC s.img) from HU.out) k hk).1
    have h2 := HO1.out.size
    omega) hm ho4 hG hk⟩
set_option maxHeartbeats 3200000 in
theorem step_record (S0 : Set0 B a0 a1 W FH FX FK kb h x s ls) (y : Value) :
    Calls Tryd.prog 14 #[.pointer (some ⟨kb, 0, none⟩), .pointer (some ⟨h, 0, none⟩), .pointer (some ⟨x, 0, none⟩), .agg #[.int .i64 7, y]] W fun e W' => e = .returned (.bool true) ∧ After B W FH FX FK kb h x 1 ls W' := by
  obtain ⟨b, hbz⟩ : ∃ b, W.heap.size = b := ⟨_, rfl⟩
  have H0 := Lib.hid S0
  have HX := Lib.hid (show Blk (W.alloc (.cells #[.int .i64 7, y] 42)) b 42 [.int .i64 7, y] from hbz ▸ Blk.new W _ _)
  clear S0
  go_enter Tryd.func14, Tryd.ntmps14
  go_upto_region 1 with fail
  (try rw [hbz])
  refine wp_gen (fun W1 => Only Nil W W1 ∧ Blk W1 b 42 [.int .i64 7, y]) ⟨(Only.refl _ _).alloc _, HX.out⟩ ?_
  clear HX hbz
  rintro W1 ⟨hO1, hX1⟩
  have HO1 := Lib.hid hO1
  have HS1 := Lib.hid (H0.out.nil hO1)
  have x0 : W1.cell? ⟨b, 0, none⟩ = some (.int .i64 7) := hX1.cell 0
  clear hO1 hX1
  have HC1 := Lib.hid (Record_any HS1.out.pair.hold)
  have hm : (if s.shut then s.img else []).length ≤ 16777216 := by
    obtain ⟨v, hA⟩ := HS1.out.pair.ref.at'
    have := hA.ok.room; have := hA.ok.most
    split
    · omega
    · simp
  have HR := Lib.hid (fun (w2 : World) (hr : IsRef B w2 FX x s) => rrecord_any hr)
  obtain ⟨im, him⟩ : ∃ im, (if s.shut then s.img else []) = im := ⟨_, rfl⟩
  obtain ⟨sh, hsh⟩ : ∃ sh, s.shut = sh := ⟨_, rfl⟩
  rw [him, hsh] at HC1 HR
  rw [him] at hm
  clear him hsh
  go_upto_region 26 with (first
    | (go_at_call 9; refine HC1.out.mono ?_; rintro e W2 ⟨u, rfl, hu2, ho2⟩; have HU := Lib.hid hu2; have HO2 := Lib.hid ho2; clear hu2 ho2)
    | (go_at_call 33; refine (HR.out _ (HS1.out.nil HO2.out).pair.ref).mono ?_; rintro e W3 ⟨u', rfl, hu3, ho3⟩))
  obtain ⟨Au, cu, rfl⟩ := own_slice1 HU.out
  obtain ⟨Av, cv, rfl, _⟩ := hu3.form
  have hU3 := own_only (show W2.ownsRow W1.heap.size 5 1 _ _ _ from HU.out) ho3 fun _ _ e => e
  have HU3 := Lib.hid (show OwnB W1.heap.size W3 _ _ from hU3)
  have HO3 := Lib.hid (HO2.out.then ho3)
  have s0 : (convert 26 9 (.slice Au im.length cu)).run Tryd.prog W3 = .ok (.string (str im)) W3 := str_of (P := Tryd.prog) (src := 26) (e := 5) (dst := 9) Tryd.underlying26 Tryd.underlying5 Tryd.underlying9 (OwnB.reads' hU3)
  have s1 : (convert 26 9 (.slice Av im.length cv)).run Tryd.prog W3 = .ok (.string (str im)) W3 := str_of (P := Tryd.prog) (src := 26) (e := 5) (dst := 9) Tryd.underlying26 Tryd.underlying5 Tryd.underlying9 hu3
  have hs2 : ((str im).toList == (str im).toList) = true := by simp
  have HT := Lib.hid (take_any ((HS1.out.nil HO3.out).book) (.slice Au im.length cu) im (HU3.out.low HS1.out.book.base) (fun k hk e => by
    have h1 := (own_block (show W3.ownsRow W1.heap.size 5 1 (.slice Au im.length cu) im.length (BC im) from HU3.out) k hk).1
    have h2 := (HS1.out.book.own k e).2
    omega) (by have := H0.out.len; omega))
  clear hU3 hu3 ho3 HC1
  go_wp2_with (go_at_call 32; refine HT.out.mono ?_; rintro e W4 ⟨rfl, ho4, GK, hG, hk⟩)
  go_ret
  exact ⟨rfl, H0.out.took (HO1.out.then HO3.out) (fun k hk => by
    have h1 := (own_block (show W3.ownsRow W1.heap.size 5 1 (.slice Au im.length cu) im.length (BC im) from HU3.out) k hk).1
    have h2 := HO1.out.size
    omega) hm ho4 hG hk⟩
set_option maxHeartbeats 3200000 in
theorem step_other (S0 : Set0 B a0 a1 W FH FX FK kb h x s ls) (y : Value) (kd : Int) (k1 : ¬ kd = 1) (k2 : ¬ kd = 2) (k3 : ¬ kd = 3) (k4 : ¬ kd = 4) (k5 : ¬ kd = 5) (k6 : ¬ kd = 6) (k7 : ¬ kd = 7) :
    Calls Tryd.prog 14 #[.pointer (some ⟨kb, 0, none⟩), .pointer (some ⟨h, 0, none⟩), .pointer (some ⟨x, 0, none⟩), .agg #[.int .i64 kd, y]] W fun e W' => e = .returned (.bool true) ∧ After B W FH FX FK kb h x 1 ls W' := by
  obtain ⟨b, hbz⟩ : ∃ b, W.heap.size = b := ⟨_, rfl⟩
  have H0 := Lib.hid S0
  have HX := Lib.hid (show Blk (W.alloc (.cells #[.int .i64 kd, y] 42)) b 42 [.int .i64 kd, y] from hbz ▸ Blk.new W _ _)
  clear S0
  go_enter Tryd.func14, Tryd.ntmps14
  go_upto_region 1 with fail
  (try rw [hbz])
  refine wp_gen (fun W1 => Only Nil W W1 ∧ Blk W1 b 42 [.int .i64 kd, y]) ⟨(Only.refl _ _).alloc _, HX.out⟩ ?_
  clear HX hbz
  rintro W1 ⟨hO1, hX1⟩
  have HO1 := Lib.hid hO1
  have HS1 := Lib.hid (H0.out.nil hO1)
  have x0 : W1.cell? ⟨b, 0, none⟩ = some (.int .i64 kd) := hX1.cell 0
  clear hO1 hX1
  go_wp2
  go_ret
  exact ⟨rfl, H0.out.same HO1.out⟩
theorem step_any (S0 : Set0 B a0 a1 W FH FX FK kb h x s ls) (kd : Int) (xa : Option Addr) (xc : Nat) (bs : List UInt8) (hb : RB W (.slice xa bs.length xc) bs) (hl : bs.length ≤ 140737488355328) (hB : 0 < bs.length → ∀ k, blkOf (.slice xa bs.length xc) = some k → k < B) :
    Calls Tryd.prog 14 #[.pointer (some ⟨kb, 0, none⟩), .pointer (some ⟨h, 0, none⟩), .pointer (some ⟨x, 0, none⟩), .agg #[.int .i64 kd, .slice xa bs.length xc]] W fun e W' => e = .returned (.bool true) ∧ After B W FH FX FK kb h x 1 ls W' := by
  by_cases k1 : kd = 1
  · subst k1
    exact step_add S0 xa xc bs hb hl hB
  by_cases k2 : kd = 2
  · subst k2
    exact step_reset S0 _
  by_cases k3 : kd = 3
  · subst k3
    exact step_seal S0 _
  by_cases k4 : kd = 4
  · subst k4
    exact step_len S0 _
  by_cases k5 : kd = 5
  · subst k5
    exact step_sum S0 _
  by_cases k6 : kd = 6
  · subst k6
    exact step_bytes S0 _
  by_cases k7 : kd = 7
  · subst k7
    exact step_record S0 _
  exact step_other S0 _ kd k1 k2 k3 k4 k5 k6 k7
end
end Go.Proofs.YthkongkbefpilaaDoor
