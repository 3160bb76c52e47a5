/-
  The simple system of JudgeLets: what it is in memory; its frame.
-/
import Derived.Test.YthoaeolohnalnaaPa
namespace Go.Proofs.Ythoaeolohnalnaa
open Go.RowKit

structure Py where
  now : Int
  fails : Int
  ip : Int
  till : Int
  held : Bool
  under : Bool
  over : Bool
  ready : Int
def Py.tail (s : Py) (v : Value) : List Value := [v, .int .i64 s.now, .int .i64 s.fails, .int .u32 s.ip, .int .i64 s.till, .bool s.held, .bool s.under, .bool s.over, .int .i64 s.ready]
def EvB (W : World) (e : Ev) : Prop := (0 ≤ e.ip ∧ e.ip < 4294967296) ∧ ((e.a = none ∧ e.cap = 0 ∧ e.data = []) ∨ ∃ g, e.a = some ⟨g, 0, none⟩ ∧ e.cap = 60 ∧ e.data.length = 60 ∧ Blk W g 5 (BC e.data))
def flatE (l : List Ev) : List Value := l.flatMap Ev.cells
theorem flatE_len (l : List Ev) : (flatE l).length = l.length * 7 := by
  induction l with
  | nil => rfl
  | cons x r ih =>
    show (x.cells ++ flatE r).length = (r.length + 1) * 7
    rw [List.length_append, ih, show x.cells.length = 7 from rfl]
    omega
theorem flatE_get : ∀ (l : List Ev) (j i : Nat), j < l.length → i < 7 → (flatE l)[j * 7 + i]? = (l.getD j ev0).cells[i]?
  | [], j, _, hj, _ => absurd hj (Nat.not_lt_zero j)
  | x :: r, 0, i, _, hi => by
    show (x.cells ++ flatE r)[0 * 7 + i]? = _
    rw [Nat.zero_mul, Nat.zero_add, List.getElem?_append_left (by exact hi)]
    rfl
  | x :: r, j + 1, i, hj, hi => by
    show (x.cells ++ flatE r)[(j + 1) * 7 + i]? = _
    have hx : x.cells.length = 7 := rfl
    rw [List.getElem?_append_right (by rw [hx]; omega), hx, show (j + 1) * 7 + i - 7 = j * 7 + i by omega, flatE_get r j i (by simpa using hj) hi]
    simp [List.getD]
theorem flatE_snoc (l : List Ev) (e : Ev) : flatE (l ++ [e]) = flatE l ++ e.cells := by simp [flatE]
structure PlAt (W : World) (g base : Nat) (c : Cfg) (v : Value) (l : List Ev) (s : Py) : Prop where
  ok : c.ok
  blk : Blk W g 41 (c.cells ++ s.tail v)
  own : W.ownsRow base 48 7 v l.length (flatE l)
  each : ∀ j, j < l.length → EvB W (l.getD j ev0)
  low : base ≤ g ∧ base ≤ W.heap.size
section
variable {W W' : World} {g base : Nat} {c : Cfg} {v : Value} {l : List Ev} {s : Py}
theorem EvB.only {S : Nat → Prop} {e : Ev} (h : EvB W e) (ho : Only S W W') (hS : ∀ k, S k → ∀ cs, ¬ Blk W k 5 cs) : EvB W' e := by
  refine ⟨h.1, ?_⟩
  rcases h.2 with h2 | ⟨k, h1, h2, h3, h4⟩
  · exact .inl h2
  · exact .inr ⟨k, h1, h2, h3, ho.blk h4 fun hk => hS k hk _ h4⟩
theorem blk_type {t t' : TypeId} {cs cs' : List Value} {k : Nat} (h : Blk W k t cs) (h' : Blk W k t' cs') : t = t' := by
  unfold Blk at h h'
  rw [h] at h'
  injection h' with h'
  injection h'
theorem EvB.ok {e : Ev} (h : EvB W e) : e.ok W := by
  refine ⟨h.1.1, h.1.2, ?_⟩
  rcases h.2 with ⟨h1, h2, h3⟩ | ⟨k, h1, h2, h3, h4⟩
  · exact ⟨e.a, e.cap, rfl, by rw [h3]; exact Nat.zero_le _, fun h0 => by rw [h3] at h0; exact absurd h0 (by decide)⟩
  · refine ⟨e.a, e.cap, rfl, by omega, fun _ => ⟨k, 0, h1, fun j hj => ?_⟩⟩
    rw [Nat.zero_add, h4.cell]
    exact BC_get _ _ hj
theorem PlAt.evs (h : PlAt W g base c v l s) : Evs W v l := by
  obtain ⟨A, cap, rfl, hc, hr⟩ := ownN_form h.own
  refine ⟨A, cap, rfl, hc, fun h0 => ?_⟩
  obtain ⟨k, rfl, hcell⟩ := hr h0
  refine ⟨k, 0, rfl, fun j hj => ⟨fun i hi => ?_, (h.each j hj).ok⟩⟩
  have hi7 : i < (l.getD j ev0).cells.length := hi
  rw [Nat.zero_add, List.getElem?_eq_getElem hi7]
  refine hcell _ _ ?_
  rw [flatE_get l j i hj hi, List.getElem?_eq_getElem hi7]
/-- What leaves all old memory alone. -/
theorem PlAt.nil (h : PlAt W g base c v l s) (ho : Only Nil W W') : PlAt W' g base c v l s :=
  ⟨h.ok, ho.blk h.blk id, ownN_only h.own ho fun _ _ => id, fun j hj => (h.each j hj).only ho fun _ hk => hk.elim, h.low.1, Nat.le_trans h.low.2 ho.size⟩
theorem PlAt.at (h : PlAt W g base c v l s) (i : Nat) : W.cell? ⟨g, 45 + i, none⟩ = (s.tail v)[i]? := by
  rw [h.blk.cell]
  rw [List.getElem?_append_right (by rw [h.ok.length]; omega), h.ok.length]
  congr 1
  omega
theorem PlAt.cL (h : PlAt W g base c v l s) : W.cell? ⟨g, 45, none⟩ = some v := h.at 0
theorem PlAt.cNow (h : PlAt W g base c v l s) : W.cell? ⟨g, 46, none⟩ = some (.int .i64 s.now) := h.at 1
theorem PlAt.cFails (h : PlAt W g base c v l s) : W.cell? ⟨g, 47, none⟩ = some (.int .i64 s.fails) := h.at 2
theorem PlAt.cIp (h : PlAt W g base c v l s) : W.cell? ⟨g, 48, none⟩ = some (.int .u32 s.ip) := h.at 3
theorem PlAt.cTill (h : PlAt W g base c v l s) : W.cell? ⟨g, 49, none⟩ = some (.int .i64 s.till) := h.at 4
theorem PlAt.cHeld (h : PlAt W g base c v l s) : W.cell? ⟨g, 50, none⟩ = some (.bool s.held) := h.at 5
theorem PlAt.cUnder (h : PlAt W g base c v l s) : W.cell? ⟨g, 51, none⟩ = some (.bool s.under) := h.at 6
theorem PlAt.cOver (h : PlAt W g base c v l s) : W.cell? ⟨g, 52, none⟩ = some (.bool s.over) := h.at 7
theorem PlAt.cReady (h : PlAt W g base c v l s) : W.cell? ⟨g, 53, none⟩ = some (.int .i64 s.ready) := h.at 8
theorem PlAt.free (h : PlAt W g base c v l s) (i : Nat) : W.frozen? ⟨g, i, none⟩ = false := h.blk.free i
theorem PlAt.cLow (h : PlAt W g base c v l s) (i : Nat) (hi : i < 45) : W.cell? ⟨g, i, none⟩ = c.cells[i]? := by
  rw [h.blk.cell, List.getElem?_append_left (by rw [h.ok.length]; exact hi)]
theorem PlAt.cAtt (h : PlAt W g base c v l s) : W.cell? ⟨g, 44, none⟩ = some (.int .i64 c.att) := by
  rw [h.cLow 44 (by omega)]
  unfold Cfg.cells
  rw [List.getElem?_append_right (by rw [BC_length, h.ok.mac]; omega), BC_length, h.ok.mac, List.getElem?_append_right (by rw [h.ok.mid]; omega), h.ok.mid]
  rfl
theorem PlAt.cMost (h : PlAt W g base c v l s) : W.cell? ⟨g, 41, none⟩ = some (.int .i64 c.most) := by
  rw [h.cLow 41 (by omega)]
  unfold Cfg.cells
  rw [List.getElem?_append_right (by rw [BC_length, h.ok.mac]; omega), BC_length, h.ok.mac, List.getElem?_append_right (by rw [h.ok.mid]; omega), h.ok.mid]
  rfl
theorem PlAt.cMac (h : PlAt W g base c v l s) (i : Nat) (hi : i < 6) : W.cell? ⟨g, i, none⟩ = some (.int .u8 (by8 (c.mac.getD i 0))) := by
  rw [h.cLow i (by omega)]
  unfold Cfg.cells
  rw [List.getElem?_append_left (by rw [BC_length, h.ok.mac]; exact hi)]
  exact BC_get _ _ (by rw [h.ok.mac]; exact hi)
theorem play_ne : (48 : TypeId) ≠ 41 := by decide
/-- A field of it is set. -/
theorem PlAt.put (h : PlAt W g base c v l s) (i : Nat) (x : Value) (v' : Value) (s' : Py) (hs : (s.tail v).set i x = s'.tail v') (hv : v' = v) : PlAt (W.setCell ⟨g, 45 + i, none⟩ x) g base c v' l s' := by
  subst hv
  have ho : Only (One g) W (W.setCell ⟨g, 45 + i, none⟩ x) := (Only.refl _ _).setCell (p := ⟨g, 45 + i, none⟩) (.inl (One.self g)) x
  refine ⟨h.ok, ?_, ownN_only h.own ho fun k hk h1 => ownN_far h.own h.blk play_ne (by rw [hk, show k = g from h1]), fun j hj => (h.each j hj).only ho fun k hk cs hb => ?_, h.low.1, Nat.le_trans h.low.2 ho.size⟩
  · have := h.blk.set (45 + i) x
    rwa [List.set_append_right _ _ (by rw [h.ok.length]; omega), h.ok.length, show 45 + i - 45 = i by omega, hs] at this
  · rw [show k = g from hk] at hb
    exact absurd (blk_type hb h.blk) (by decide)
theorem PlAt.pNow (h : PlAt W g base c v l s) (x : Int) : PlAt (W.setCell ⟨g, 46, none⟩ (.int .i64 x)) g base c v l { s with now := x } := h.put 1 _ _ _ rfl rfl
theorem PlAt.pFails (h : PlAt W g base c v l s) (x : Int) : PlAt (W.setCell ⟨g, 47, none⟩ (.int .i64 x)) g base c v l { s with fails := x } := h.put 2 _ _ _ rfl rfl
theorem PlAt.pIp (h : PlAt W g base c v l s) (x : Int) : PlAt (W.setCell ⟨g, 48, none⟩ (.int .u32 x)) g base c v l { s with ip := x } := h.put 3 _ _ _ rfl rfl
theorem PlAt.pTill (h : PlAt W g base c v l s) (x : Int) : PlAt (W.setCell ⟨g, 49, none⟩ (.int .i64 x)) g base c v l { s with till := x } := h.put 4 _ _ _ rfl rfl
theorem PlAt.pHeld (h : PlAt W g base c v l s) (x : Bool) : PlAt (W.setCell ⟨g, 50, none⟩ (.bool x)) g base c v l { s with held := x } := h.put 5 _ _ _ rfl rfl
theorem PlAt.pUnder (h : PlAt W g base c v l s) (x : Bool) : PlAt (W.setCell ⟨g, 51, none⟩ (.bool x)) g base c v l { s with under := x } := h.put 6 _ _ _ rfl rfl
theorem PlAt.pOver (h : PlAt W g base c v l s) (x : Bool) : PlAt (W.setCell ⟨g, 52, none⟩ (.bool x)) g base c v l { s with over := x } := h.put 7 _ _ _ rfl rfl
theorem PlAt.pReady (h : PlAt W g base c v l s) (x : Int) : PlAt (W.setCell ⟨g, 53, none⟩ (.int .i64 x)) g base c v l { s with ready := x } := h.put 8 _ _ _ rfl rfl
end
set_option maxHeartbeats 1600000 in
set_option maxRecDepth 100000 in
theorem frame_any (g base : Nat) (c : Cfg) (v : Value) (l : List Ev) (s : Py) (ip : Int) (w : World) (h : PlAt w g base c v l s) (h0 : 0 ≤ ip) (h1 : ip < 4294967296) :
    Calls Try.prog 31 #[.pointer (some ⟨g, 0, none⟩), .int .u32 ip] w fun r w' => ∃ gd, r = .returned (.slice (some ⟨gd, 0, none⟩) 60 60) ∧ Blk w' gd 5 (BC (frameQ c.mac ip)) ∧ Only Nil w w' := by
  obtain ⟨ib, hib, hbz, hbs, hbb⟩ := info_parts info_byte
  have hmk : ∀ u : World, (Instr.makeSlice 46 (.int .i64 60) (.int .i64 60)).run Try.prog u = .ok (.slice (some ⟨u.heap.size, 0, none⟩) 60 60) (u.alloc (.cells (BC (List.replicate 60 0)).toArray 5)) := fun u => by
    have h := run_make (P := Try.prog) u 46 5 ib (.int .u8 0) Try.underlying46 hib hbz .i64 .i64 60 60 (by omega) (Int.le_refl _) (by rw [hbb]; omega) (by omega)
    have e : madeCells (Value.int IntKind.u8 0).cells (Int.toNat 60 * 1) = (BC (List.replicate 60 0)).toArray := made_zeros 60
    rw [hbs, e] at h
    exact h
  go_enter Try.func31, Try.ntmps31
  go_upto_region 2 with fail
  obtain ⟨b, hb⟩ : ∃ b, w.heap.size = b := ⟨_, rfl⟩
  have HG := Lib.hid hb
  refine wp_gen (fun W => PlAt W g base c v l s ∧ Only Nil w W ∧ Blk W b 5 (BC (List.replicate 60 0))) ⟨h.nil ((Only.refl _ _).alloc _), (Only.refl _ _).alloc _, hb ▸ Blk.new w _ _⟩ ?_
  rw [hb]
  clear hb hmk h
  intro w1 h1
  have H1 := Lib.hid h1
  clear h1
  have hs6 : ∀ W : World, (Instr.slice 46 (.slice (some ⟨b, 0, none⟩) 60 60) (some (.int .i64 6)) none none).run Try.prog W = .ok (.slice (some ⟨b, 6, none⟩) 54 54) W := fun W => slice_bytes_l (A := some ⟨b, 0, none⟩) (n := 60) (c := 60) (k := 6) (by omega) W
  have hs26 : ∀ W : World, (Instr.slice 46 (.slice (some ⟨b, 0, none⟩) 60 60) (some (.int .i64 26)) none none).run Try.prog W = .ok (.slice (some ⟨b, 26, none⟩) 34 34) W := fun W => slice_bytes_l (A := some ⟨b, 0, none⟩) (n := 60) (c := 60) (k := 26) (by omega) W
  go_still_tail 7, (by kernel_rfl)
  change wpList _ _ _ _ _ w1.drew
  obtain ⟨X1, hX1⟩ : ∃ X1, List.replicate 6 0 ++ (c.mac ++ List.replicate 48 0) = X1 := ⟨_, rfl⟩
  have hml := H1.out.1.ok.mac
  have hrow : (BC (List.replicate 60 0)).toArray.toList.take 6 ++ (BC c.mac ++ (BC (List.replicate 60 0)).toArray.toList.drop (6 + (BC c.mac).length)) = BC X1 := by
    rw [← hX1, BC_length, hml, BC_append, BC_append]
    rfl
  have HX := Lib.hid hX1
  have HM := Lib.hid hml
  have HROW := Lib.hid hrow
  clear hX1 hml hrow
  refine wpList_copy_own rfl (.tmp 9) (.tmp 14) 46 46 rfl 5 Try.underlying46 (by kernel_rfl) b 6 54 54 ⟨g, 0, none⟩ 6 6 rfl rfl (BC (List.replicate 60 0)).toArray 5 H1.out.2.2 (BC c.mac) (by rw [BC_length, HM.out]; rfl) (fun j u hu => by
    have hj : j < 6 := by
      have := (List.getElem?_eq_some_iff.1 hu).1
      rwa [BC_length, HM.out] at this
    rw [Addr.add_mid, Nat.zero_add]
    have h := H1.out.1.cMac j hj
    rw [BC_get _ _ (by rw [HM.out]; exact hj)] at hu
    rw [← hu]
    exact h) (by rw [BC_length, HM.out, List.size_toArray, BC_length]; decide) (BC_one _) ?_
  rw [HROW.out]
  have h2 : Only Nil w (w1.drew.setRow b (BC X1).toArray) ∧ Blk (w1.drew.setRow b (BC X1).toArray) b 5 (BC X1) := ⟨H1.out.2.1.drew.setRow (.inr (by rw [← HG.out]; exact Nat.le_refl _)) _, H1.out.2.2.drew.row _⟩
  generalize w1.drew.setRow b (BC X1).toArray = w2 at *
  have hXl : X1.length = 60 := by rw [← HX.out]; simp [HM.out]
  have c12 : w2.cell? ⟨b, 12, none⟩ = some (.int .u8 (by8 (X1.getD 12 0))) := by rw [h2.2.cell]; exact BC_get _ _ (by omega)
  have c14 : w2.cell? ⟨b, 14, none⟩ = some (.int .u8 (by8 (X1.getD 14 0))) := by rw [h2.2.cell]; exact BC_get _ _ (by omega)
  have z12 := h2.2.free 12
  have z14 := h2.2.free 14
  have HF := Lib.hid (show Only Nil w ((w2.setCell ⟨b, 12, none⟩ (.int .u8 8)).setCell ⟨b, 14, none⟩ (.int .u8 69)) ∧ Blk ((w2.setCell ⟨b, 12, none⟩ (.int .u8 8)).setCell ⟨b, 14, none⟩ (.int .u8 69)) b 5 (BC ((X1.set 12 8).set 14 69)) from by
    refine ⟨(h2.1.setCell (p := ⟨b, 12, none⟩) (.inr (by rw [HG.out]; exact Nat.le_refl _)) _).setCell (p := ⟨b, 14, none⟩) (.inr (by rw [HG.out]; exact Nat.le_refl _)) _, ?_⟩
    have h := (h2.2.set 12 (.int .u8 (by8 8))).set 14 (.int .u8 (by8 69))
    rw [BC_set, BC_set] at h
    exact h)
  clear H1 HROW hs6 h2 hXl
  go_upto_region 5 with fail
  clear c12 c14 z12 z14
  refine wp_gen (fun W => Only Nil w W ∧ Blk W b 5 (BC ((X1.set 12 8).set 14 69))) HF.out ?_
  clear HF
  intro w3 h3
  have H3 := Lib.hid h3
  clear h3
  go_upto_region 6 with (go_at_call 43; refine (put_any ip _ h0 h1).mono ?_; rintro r w4 ⟨rfl, hB4, ho4⟩)
  obtain ⟨q, hq⟩ : ∃ q, w3.heap.size = q := ⟨_, rfl⟩
  have hB3 := ho4.blk H3.out.2 id
  have hO3 := H3.out.1.then ho4
  rw [hq] at hB4 ⊢
  obtain ⟨X2, hX2⟩ : ∃ X2, (X1.set 12 8).set 14 69 = X2 := ⟨_, rfl⟩
  rw [hX2] at hB3
  have hrow : (BC X2).toArray.toList.take 26 ++ (BC (putQ ip 4) ++ (BC X2).toArray.toList.drop (26 + (BC (putQ ip 4)).length)) = BC (frameQ c.mac ip) := by
    rw [← hX2, ← HX.out]
    have hm := HM.out
    generalize c.mac = mac at hm
    match mac, hm with
    | [m0, m1, m2, m3, m4, m5], _ => rfl
  have hfit : 26 + (BC (putQ ip 4)).length ≤ (BC X2).toArray.size := by
    rw [BC_length, putQ_len, List.size_toArray, BC_length, ← hX2, List.length_set, List.length_set, ← HX.out]
    simp [HM.out]
  have HF := Lib.hid (And.intro hB3 (And.intro hO3 (And.intro hB4 (And.intro hrow hfit))))
  clear hB3 hO3 hB4 hrow hfit hX2 H3 ho4 hq
  go_wp2_with ((with_reducible show wpList _ _ _ (Oper.mk _ (.call { callee := .builtin .copy, args := _, argTypes := _ }) _ _ _ _ :: _) _ _); refine wpList_copy_own rfl (.tmp 24) (.tmp 25) 46 46 rfl 5 Try.underlying46 (by kernel_rfl) b 26 34 34 ⟨q, 0, none⟩ 4 4 rfl rfl (BC X2).toArray 5 HF.out.1 (BC (putQ ip 4)) (by rw [BC_length, putQ_len]; rfl) (news_block HF.out.2.2.1) HF.out.2.2.2.2 (BC_one _) ?_; rw [HF.out.2.2.2.1])
  go_ret
  exact ⟨b, rfl, HF.out.1.row _, HF.out.2.1.setRow (.inr (by rw [HG.out]; exact Nat.le_refl _)) _⟩
end Go.Proofs.Ythoaeolohnalnaa
