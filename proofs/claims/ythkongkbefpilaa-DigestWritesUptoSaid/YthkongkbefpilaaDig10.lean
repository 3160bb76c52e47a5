/-
  The walks of digest.Unhex and of the reference's Unhex.
-/
import Derived.Test.YthkongkbefpilaaDig9
namespace Go.Proofs.Ythkongkbefpilaa
open Go.RowKit Sha

theorem results_cell_slot {P : Program} {fn : Func} {p q : Tmp} {ty : TypeId} (h : fn.results = #[.cell p ty, .tmp q]) (tmps : Array Value) (w : World) (g : Nat) (t : TypeId) (cs : Array Value) (fr : Nat × Nat) (d : TypeDesc)
    (hp : tmps.getD p undef = .pointer (some ⟨g, 0, none⟩)) (hg : w.heap[g]? = some (.cells cs t fr))
    (hu : P.underlying ty = some d) (hd : (match d with | .struct _ | .array _ _ => true | _ => false) = true) (hi : (P.info? ty).map (·.size) = some cs.size) {u : Value} (hq : tmps.getD q undef = u) :
    (results fn tmps).run P w = .ok (.tuple #[.agg cs, u]) w := by
  have hp' : tmps[p]?.getD undef = .pointer (some ⟨g, 0, none⟩) := by simpa using hp
  have hq' : tmps[q]?.getD undef = u := by simpa using hq
  simp [results, h, hp', hq', asAddr, run_loadVar_row w g t ty cs fr d hg hu hd hi]

/-! ## A string as its bytes -/
theorem str_size (bs : List UInt8) : (str bs).size = bs.length := by simp [str, ByteArray.size]
theorem str_of_data (s : ByteArray) : s = str s.data.toList := by cases s; rfl
theorem str_index {P : Program} (t : TypeId) (h : P.underlying t = some .string) (bs : List UInt8) (k : IntKind) (j : Nat) (hj : j < bs.length) (W : World) : (Instr.index t (.string (str bs)) (.int k (j : Int))).run P W = .ok (.int .u8 (by8 (bs.getD j 0))) W := by
  rw [run_index_string W t (str bs) k j h, dif_pos ⟨by omega, by rw [str_size]; omega⟩]
  congr 2
  unfold by8
  congr 2
  rw [List.getD, List.getElem?_eq_getElem hj]
  rfl

/-! ## Unhex -/
def zeros32 : List UInt8 := List.replicate 32 0
def un (bs : List UInt8) : List UInt8 := if isHex bs then unhex bs else zeros32
def unNo (bs : List UInt8) : Int := if isHex bs then 0 else 20
def unTo (bs : List UInt8) (k : Nat) : List UInt8 := (unhex bs).take k ++ List.replicate (32 - k) 0
theorem unhex_length (bs : List UInt8) : (unhex bs).length = 32 := by simp [unhex]
theorem unTo_length (bs : List UInt8) (k : Nat) (h : k ≤ 32) : (unTo bs k).length = 32 := by simp [unTo, unhex_length]; omega
theorem unTo_set (bs : List UInt8) (i : Nat) (h : i < 32) : (unTo bs i).set i (unAt bs i) = unTo bs (i + 1) := by
  unfold unTo
  obtain ⟨k, hk⟩ : ∃ k, 32 - i = k + 1 := ⟨32 - i - 1, by omega⟩
  have ht : ((unhex bs).take i).length = i := by simp [unhex_length]; omega
  rw [List.set_append_right _ _ (by omega), ht, Nat.sub_self, hk, List.replicate_succ, List.set_cons_zero, show 32 - (i + 1) = k by omega, List.take_add_one]
  simp [unhex, h]
theorem unTo_all (bs : List UInt8) : unTo bs 32 = unhex bs := by unfold unTo; rw [List.take_of_length_le (by rw [unhex_length]; omega)]; simp
theorem okTo_succ (bs : List UInt8) (k : Nat) : okTo bs (k + 1) = (okTo bs k && okAt bs k) := by unfold okTo; rw [List.range_succ, List.all_append]; simp
theorem okTo_no (bs : List UInt8) (k n : Nat) (h : k < n) (hk : okAt bs k = false) : okTo bs n = false := by
  unfold okTo
  rw [List.all_eq_false]
  exact ⟨k, List.mem_range.2 h, by simp [hk]⟩
theorem un_no (bs : List UInt8) (h : isHex bs = false) : un bs = zeros32 ∧ unNo bs = 20 := by unfold un unNo; rw [h]; exact ⟨rfl, rfl⟩
theorem un_yes (bs : List UInt8) (h : isHex bs = true) : un bs = unhex bs ∧ unNo bs = 0 := by unfold un unNo; rw [h]; exact ⟨rfl, rfl⟩
theorem isHex_no_at (bs : List UInt8) (k : Nat) (h : k < 32) (hk : okAt bs k = false) : isHex bs = false := by unfold isHex; rw [okTo_no bs k 32 h hk]; simp
theorem isHex_no_len (bs : List UInt8) (h : bs.length ≠ 64) : isHex bs = false := by unfold isHex; simp [h]
theorem or_halves (x y : UInt8) (hx : x.toNat < 16) (hy : y.toNat < 16) : bits .or .u8 (IntKind.u8.wrap (by8 x * 16)) (by8 y) = by8 (UInt8.ofNat (x.toNat * 16 + y.toNat)) := by
  obtain ⟨a, ha⟩ : ∃ a, a = x.toNat := ⟨_, rfl⟩
  obtain ⟨b, hb⟩ : ∃ b, b = y.toNat := ⟨_, rfl⟩
  unfold by8
  rw [← ha] at hx ⊢
  rw [← hb] at hy ⊢
  have : ∀ a : Nat, a < 16 → ∀ b : Nat, b < 16 → bits .or .u8 (IntKind.u8.wrap ((a : Int) * 16)) (b : Int) = ((UInt8.ofNat (a * 16 + b)).toNat : Int) := by decide +kernel
  exact this a hx b hy
theorem add_halves (x y : UInt8) (_ : x.toNat < 16) (_ : y.toNat < 16) : IntKind.u8.wrap (IntKind.u8.wrap (by8 x * 16) + by8 y) = by8 (UInt8.ofNat (x.toNat * 16 + y.toNat)) := by
  have h1 := by8_ofNat (x.toNat * 16 + y.toNat)
  rw [h1]
  unfold by8
  rw [IntKind.wrap_u8, IntKind.wrap_u8]
  omega
def UnAt (w : World) (bs : List UInt8) (k : Nat) (wr : World) : Prop :=
  Only Nil w wr ∧ Blk wr w.heap.size 26 (BC zeros32) ∧ Blk wr (w.heap.size + 1) 26 (BC (unTo bs k))
theorem UnAt.step {w wr : World} {bs : List UInt8} {k : Nat} (h : UnAt w bs k wr) (hk : k < 32) {v : Int} (hv : v = by8 (unAt bs k)) : UnAt w bs (k + 1) (wr.setCell ⟨w.heap.size + 1, k, none⟩ (.int .u8 v)) := by
  refine ⟨h.1.setCell (.inr (by simp)) _, h.2.1.far (by simp) _, ?_⟩
  have := h.2.2.set k (.int .u8 (by8 (unAt bs k)))
  rw [BC_set, unTo_set _ _ hk] at this
  rw [hv]
  exact this
theorem UnAt.start (w : World) (bs : List UInt8) : UnAt w bs 0 ((w.alloc (.cells (BC zeros32).toArray 26)).alloc (.cells (BC zeros32).toArray 26)) := by
  refine ⟨((Only.refl _ _).alloc _).alloc _, (Blk.new w _ _).alloc _, ?_⟩
  have := Blk.new (w.alloc (.cells (BC zeros32).toArray 26)) 26 (BC zeros32)
  rw [World.size_alloc] at this
  exact this
theorem build_zeros (W : World) : (Instr.build 26 #[]).run Try.prog W = .ok (.agg (BC zeros32).toArray) W := by kernel_rfl
set_option maxHeartbeats 1600000 in
set_option maxRecDepth 100000 in
theorem unhex_any (bs : List UInt8) (w : World) :
    Calls Try.prog 24 #[.string (str bs)] w fun e w' => e = .returned (.tuple #[.agg (BC (un bs)).toArray, .int .i64 (unNo bs)]) ∧ Only Nil w w' := by
  have hsz := str_size bs
  have hbld := build_zeros
  have hn : (BC zeros32).toArray.size = 32 := by simp [BC_length, zeros32]
  by_cases h64 : bs.length = 64
  · have hne : ((str bs).size : Int) = 64 := by omega
    go_enter Try.func24, Try.ntmps24
    go_upto_region 4 with (fail)
    refine wp_gen (UnAt w bs 0) (UnAt.start w bs) ?_
    intro w1 h1
    have HO : Hid (okTo bs 0 = true) := Lib.hid rfl
    go_wp2
    go_loopw [14] (fun i wr => ∃ k : Nat, k ≤ 32 ∧ i = .int .i64 k ∧ okTo bs k = true ∧ UnAt w bs k wr) (fun i _ => 32 - (intOf i).toNat)
    case atStart => exact ⟨0, Nat.zero_le _, rfl, HO.out, h1⟩
    case round =>
      clear h1
      obtain ⟨k, hk, rfl, hok, hS⟩ := hrel
      have HS := Lib.hid hS
      have HK := Lib.hid hok
      clear hok
      by_cases hlt : k < 32
      · have hi1 : ∀ W, (Instr.index 9 (.string (str bs)) (.int .i64 (2 * (k : Int)))).run Try.prog W = _ := fun W => str_index (P := Try.prog) 9 Try.underlying9 bs .i64 (2 * k) (by omega) W
        have hi2 : ∀ W, (Instr.index 9 (.string (str bs)) (.int .i64 (2 * (k : Int) + 1))).run Try.prog W = _ := fun W => str_index (P := Try.prog) 9 Try.underlying9 bs .i64 (2 * k + 1) (by omega) W
        have c0 := hS.2.2.cell k
        rw [BC_get _ _ (by rw [unTo_length _ _ hk]; omega)] at c0
        have f0 := hS.2.2.free k
        have hU : unAt bs k = UInt8.ofNat ((halfV (bs.getD (2 * k) 0)).toNat * 16 + (halfV (bs.getD (2 * k + 1) 0)).toNat) := rfl
        have hA : okAt bs k = (isd (bs.getD (2 * k) 0) && isd (bs.getD (2 * k + 1) 0)) := rfl
        have hst := hS.2.1
        clear hS
        generalize bs.getD (2 * k) 0 = x at *
        generalize bs.getD (2 * k + 1) 0 = y at *
        have hor := or_halves (halfV x) (halfV y) (halfV_lt x) (halfV_lt y)
        rw [← hU] at hor
        have HH := Lib.hid hA
        clear hU hA
        cases hx : isd x <;> cases hy : isd y <;> rw [hx, hy] at HH
        case true.true =>
          go_wp2_with (first
            | (go_at_call 30; (with_reducible show Calls _ _ #[Value.int IntKind.u8 (by8 x)] _ _); refine (half_any x _).mono ?_; rintro e w' ⟨rfl, rfl⟩)
            | (go_at_call 30; (with_reducible show Calls _ _ #[Value.int IntKind.u8 (by8 y)] _ _); refine (half_any y _).mono ?_; rintro e w' ⟨rfl, rfl⟩))
          exact ⟨⟨k + 1, by omega, by go_num, by rw [okTo_succ, HK.out, HH.out]; rfl, HS.out.step hlt (by rw [← IntKind.wrap_u8]; exact hor)⟩, by simp [intOf]; omega⟩
        all_goals
          have HU := Lib.hid (un_no bs (isHex_no_at bs k hlt HH.out))
          clear HH
          go_wp2_with (first
            | (go_at_call 30; (with_reducible show Calls _ _ #[Value.int IntKind.u8 (by8 x)] _ _); refine (half_any x _).mono ?_; rintro e w' ⟨rfl, rfl⟩)
            | (go_at_call 30; (with_reducible show Calls _ _ #[Value.int IntKind.u8 (by8 y)] _ _); refine (half_any y _).mono ?_; rintro e w' ⟨rfl, rfl⟩)
            | ((with_reducible show wpList _ _ _ (Oper.mk _ (.store 26 _ _) _ _ _ _ :: _) _ _); refine wpList_store_row rfl 26 (.tmp 2) (.tmp 40) rfl w.heap.size (BC zeros32).toArray rfl rfl _ _ hst (by rw [hn]; kernel_rfl) rfl (all_oneCell_toArray (BC_one _)) ?_))
          rw [HU.out.1, HU.out.2]
          refine bodyPost_ret (results_cell_slot rfl _ _ w.heap.size 26 (BC zeros32).toArray (0, 0) _ rfl (setRow_heap _ _ _ _ _ _ hst) Try.underlying26 rfl (by rw [hn]; kernel_rfl) rfl) rfl ⟨rfl, HS.out.1.setRow (.inr (by omega)) _⟩
      · have H32 := Lib.hid (show k = 32 by omega)
        have HU := Lib.hid (un_yes bs (by have h := HK.out; rw [H32.out] at h; unfold isHex; rw [h, h64]; rfl))
        rw [H32.out] at hS
        obtain ⟨ho, hB, hC⟩ := hS
        rw [unTo_all] at hC
        have hm : (BC (unhex bs)).toArray.size = 32 := by simp [BC_length, unhex_length]
        clear HS HK
        go_wp2_with (first
          | ((with_reducible show wpList _ _ _ (Oper.mk _ (.load 26 _) _ _ _ _ :: _) _ _); refine wpList_load_row rfl 26 (.tmp 4) rfl (w.heap.size + 1) rfl 26 (BC (unhex bs)).toArray (0, 0) _ hC Try.underlying26 rfl (by rw [hm]; kernel_rfl) ?_)
          | ((with_reducible show wpList _ _ _ (Oper.mk _ (.store 26 _ _) _ _ _ _ :: _) _ _); refine wpList_store_row rfl 26 (.tmp 2) (.tmp 48) rfl w.heap.size (BC (unhex bs)).toArray rfl rfl _ _ hB (by rw [hm]; kernel_rfl) (hm.trans hn.symm) (all_oneCell_toArray (BC_one _)) ?_))
        rw [HU.out.1, HU.out.2]
        refine bodyPost_ret (results_cell_slot rfl _ _ w.heap.size 26 (BC (unhex bs)).toArray (0, 0) _ rfl (setRow_heap _ _ _ _ _ _ hB) Try.underlying26 rfl (by rw [hm]; kernel_rfl) rfl) rfl ⟨rfl, ho.setRow (.inr (by omega)) _⟩
  · obtain ⟨hu1, hu2⟩ := un_no bs (isHex_no_len bs h64)
    rw [hu1, hu2]
    clear hu1 hu2
    have hne : ¬ ((str bs).size : Int) = 64 := by omega
    go_enter Try.func24, Try.ntmps24
    go_upto_region 1 with (fail)
    refine wp_gen (fun W => Only Nil w W ∧ Blk W w.heap.size 26 (BC zeros32)) ⟨(Only.refl _ _).alloc _, Blk.new w _ (BC zeros32)⟩ ?_
    rintro w1 ⟨ho, hB⟩
    go_wp2_with (((with_reducible show wpList _ _ _ (Oper.mk _ (.store 26 _ _) _ _ _ _ :: _) _ _); refine wpList_store_row rfl 26 (.tmp 2) (.tmp 13) rfl w.heap.size (BC zeros32).toArray rfl rfl _ _ hB (by rw [hn]; kernel_rfl) rfl (all_oneCell_toArray (BC_one _)) ?_))
    refine bodyPost_ret (results_cell_slot rfl _ _ w.heap.size 26 (BC zeros32).toArray (0, 0) _ rfl (setRow_heap _ _ _ _ _ _ hB) Try.underlying26 rfl (by rw [hn]; kernel_rfl) rfl) rfl ⟨rfl, ho.setRow (.inr (by omega)) _⟩
set_option maxHeartbeats 1600000 in
set_option maxRecDepth 100000 in
theorem runhex_any (bs : List UInt8) (w : World) :
    Calls Try.prog 26 #[.string (str bs)] w fun e w' => e = .returned (.tuple #[.agg (BC (un bs)).toArray, .int .i64 (unNo bs)]) ∧ Only Nil w w' := by
  have hsz := str_size bs
  have hbld := build_zeros
  have hn : (BC zeros32).toArray.size = 32 := by simp [BC_length, zeros32]
  by_cases h64 : bs.length = 64
  · have hne : ((str bs).size : Int) = 64 := by omega
    go_enter Try.func26, Try.ntmps26
    go_upto_region 2 with (fail)
    refine wp_gen (UnAt w bs 0) (UnAt.start w bs) ?_
    intro w1 h1
    have HO : Hid (okTo bs 0 = true) := Lib.hid rfl
    go_wp2
    go_loopw [5] (fun i wr => ∃ k : Nat, k ≤ 32 ∧ i = .int .i64 k ∧ okTo bs k = true ∧ UnAt w bs k wr) (fun i _ => 32 - (intOf i).toNat)
    case atStart => exact ⟨0, Nat.zero_le _, rfl, HO.out, h1⟩
    case round =>
      clear h1
      obtain ⟨k, hk, rfl, hok, hS⟩ := hrel
      have HS := Lib.hid hS
      have HK := Lib.hid hok
      clear hok
      by_cases hlt : k < 32
      · have hi1 : ∀ W, (Instr.index 9 (.string (str bs)) (.int .i64 (2 * (k : Int)))).run Try.prog W = _ := fun W => str_index (P := Try.prog) 9 Try.underlying9 bs .i64 (2 * k) (by omega) W
        have hi2 : ∀ W, (Instr.index 9 (.string (str bs)) (.int .i64 (2 * (k : Int) + 1))).run Try.prog W = _ := fun W => str_index (P := Try.prog) 9 Try.underlying9 bs .i64 (2 * k + 1) (by omega) W
        have c0 := hS.2.2.cell k
        rw [BC_get _ _ (by rw [unTo_length _ _ hk]; omega)] at c0
        have f0 := hS.2.2.free k
        have hU : unAt bs k = UInt8.ofNat ((halfV (bs.getD (2 * k) 0)).toNat * 16 + (halfV (bs.getD (2 * k + 1) 0)).toNat) := rfl
        have hA : okAt bs k = (isd (bs.getD (2 * k) 0) && isd (bs.getD (2 * k + 1) 0)) := rfl
        have hst := hS.2.1
        clear hS
        generalize bs.getD (2 * k) 0 = x at *
        generalize bs.getD (2 * k + 1) 0 = y at *
        have hor := add_halves (halfV x) (halfV y) (halfV_lt x) (halfV_lt y)
        rw [← hU] at hor
        have HH := Lib.hid hA
        clear hU hA
        cases hx : isd x <;> cases hy : isd y <;> rw [hx, hy] at HH
        case true.true =>
          go_wp2_with (first
            | (go_at_call 32; (with_reducible show Calls _ _ #[Value.int IntKind.u8 (by8 x)] _ _); refine (rhalf_any x _).mono ?_; rintro e w' ⟨rfl, rfl⟩)
            | (go_at_call 32; (with_reducible show Calls _ _ #[Value.int IntKind.u8 (by8 y)] _ _); refine (rhalf_any y _).mono ?_; rintro e w' ⟨rfl, rfl⟩))
          exact ⟨⟨k + 1, by omega, by go_num, by rw [okTo_succ, HK.out, HH.out]; rfl, HS.out.step hlt (by rw [← hor, IntKind.wrap_u8, IntKind.wrap_u8]; omega)⟩, by simp [intOf]; omega⟩
        all_goals
          have HU := Lib.hid (un_no bs (isHex_no_at bs k hlt HH.out))
          clear HH
          go_wp2_with (first
            | (go_at_call 32; (with_reducible show Calls _ _ #[Value.int IntKind.u8 (by8 x)] _ _); refine (rhalf_any x _).mono ?_; rintro e w' ⟨rfl, rfl⟩)
            | (go_at_call 32; (with_reducible show Calls _ _ #[Value.int IntKind.u8 (by8 y)] _ _); refine (rhalf_any y _).mono ?_; rintro e w' ⟨rfl, rfl⟩)
            | ((with_reducible show wpList _ _ _ (Oper.mk _ (.store 26 _ _) _ _ _ _ :: _) _ _); refine wpList_store_row rfl 26 (.tmp 2) (.tmp 41) rfl w.heap.size (BC zeros32).toArray rfl rfl _ _ hst (by rw [hn]; kernel_rfl) rfl (all_oneCell_toArray (BC_one _)) ?_))
          rw [HU.out.1, HU.out.2]
          refine bodyPost_ret (results_cell_slot rfl _ _ w.heap.size 26 (BC zeros32).toArray (0, 0) _ rfl (setRow_heap _ _ _ _ _ _ hst) Try.underlying26 rfl (by rw [hn]; kernel_rfl) rfl) rfl ⟨rfl, HS.out.1.setRow (.inr (by omega)) _⟩
      · have H32 := Lib.hid (show k = 32 by omega)
        have HU := Lib.hid (un_yes bs (by have h := HK.out; rw [H32.out] at h; unfold isHex; rw [h, h64]; rfl))
        rw [H32.out] at hS
        obtain ⟨ho, hB, hC⟩ := hS
        rw [unTo_all] at hC
        have hm : (BC (unhex bs)).toArray.size = 32 := by simp [BC_length, unhex_length]
        clear HS HK
        go_wp2_with (first
          | ((with_reducible show wpList _ _ _ (Oper.mk _ (.load 26 _) _ _ _ _ :: _) _ _); refine wpList_load_row rfl 26 (.tmp 4) rfl (w.heap.size + 1) rfl 26 (BC (unhex bs)).toArray (0, 0) _ hC Try.underlying26 rfl (by rw [hm]; kernel_rfl) ?_)
          | ((with_reducible show wpList _ _ _ (Oper.mk _ (.store 26 _ _) _ _ _ _ :: _) _ _); refine wpList_store_row rfl 26 (.tmp 2) (.tmp 48) rfl w.heap.size (BC (unhex bs)).toArray rfl rfl _ _ hB (by rw [hm]; kernel_rfl) (hm.trans hn.symm) (all_oneCell_toArray (BC_one _)) ?_))
        rw [HU.out.1, HU.out.2]
        refine bodyPost_ret (results_cell_slot rfl _ _ w.heap.size 26 (BC (unhex bs)).toArray (0, 0) _ rfl (setRow_heap _ _ _ _ _ _ hB) Try.underlying26 rfl (by rw [hm]; kernel_rfl) rfl) rfl ⟨rfl, ho.setRow (.inr (by omega)) _⟩
  · obtain ⟨hu1, hu2⟩ := un_no bs (isHex_no_len bs h64)
    rw [hu1, hu2]
    clear hu1 hu2
    have hne : ¬ ((str bs).size : Int) = 64 := by omega
    go_enter Try.func26, Try.ntmps26
    go_upto_region 2 with (fail)
    refine wp_gen (UnAt w bs 0) (UnAt.start w bs) ?_
    rintro w1 ⟨ho, hB, _⟩
    go_wp2_with (((with_reducible show wpList _ _ _ (Oper.mk _ (.store 26 _ _) _ _ _ _ :: _) _ _); refine wpList_store_row rfl 26 (.tmp 2) (.tmp 13) rfl w.heap.size (BC zeros32).toArray rfl rfl _ _ hB (by rw [hn]; kernel_rfl) rfl (all_oneCell_toArray (BC_one _)) ?_))
    refine bodyPost_ret (results_cell_slot rfl _ _ w.heap.size 26 (BC zeros32).toArray (0, 0) _ rfl (setRow_heap _ _ _ _ _ _ hB) Try.underlying26 rfl (by rw [hn]; kernel_rfl) rfl) rfl ⟨rfl, ho.setRow (.inr (by omega)) _⟩
end Go.Proofs.Ythkongkbefpilaa
