/-
  The walks of digest.New, (*Hash).Len, (*Hash).Sum, digest.Sum.
-/
import Derived.Test.YthkongkbefpilaaDoorDig4
import Derived.Test.YthkongkbefpilaaDoorSha2
namespace Go.Proofs.YthkongkbefpilaaDoor
open Go.RowKit Sha
theorem start_words : (HC Sha.start (List.replicate 64 0) 0).length = 73 := by rw [HC_length]; rfl
set_option maxRecDepth 100000 in
theorem new_any (w : World) : Calls Tryd.prog 23 #[] w fun e w' => e = .returned (.pointer (some ⟨w.heap.size, 0, none⟩)) ∧ w' = w.alloc (.cells (HC Sha.start (List.replicate 64 0) 0).toArray 75) := by
  go_enter Tryd.func23, Tryd.ntmps23
  go_wp2_with (first | ((with_reducible show wpList _ _ _ (Oper.mk _ (.build 72 _) _ _ _ _ :: _) _ _); refine wpList_built rfl 72 _ rfl (WC Sha.start.list).toArray (by kernel_rfl) ?_) | ((with_reducible show wpList _ _ _ (Oper.mk _ (.build 75 _) _ _ _ _ :: _) _ _); refine wpList_built rfl 75 _ rfl (HC Sha.start (List.replicate 64 0) 0).toArray (by kernel_rfl) ?_))
  go_ret
  exact ⟨rfl, rfl⟩
theorem HashAt.new (w : World) : HashAt (w.alloc (.cells (HC Sha.start (List.replicate 64 0) 0).toArray 75)) w.heap.size [] :=
  ⟨List.replicate 64 0, by simp, rfl, Blk.new w _ _⟩
section
variable {P : Program} (w : World)
theorem run_append_zeros (t ti ty e : TypeId) (i : TypeInfo) (z : Value) (ht : P.underlying t = some (.slice e)) (hti : P.underlying ti = some (.int .i64)) (hi : P.info? e = some i) (hz : i.zero = some z) (hs : i.size = 1) (hb : i.bytes = 1)
    (b : Addr) (sLen sCap : Nat) (olds : List Value) (hlo : olds.length = sLen) (holds : ∀ j v, olds[j]? = some v → w.cell? (b.add j) = some v)
    (n : Nat) (h0 : 0 < n) (hg : sCap < sLen + n) (hn : sLen + n ≤ 1000000) :
    (Builtin.append_ #[t, ti] ty #[.slice (some b) sLen sCap, .int .i64 (n : Int)]).run P w =
      .ok (.slice (some ⟨w.heap.size, 0, none⟩) (sLen + n) (grownCap w (sLen + n) sCap e))
        (w.drew.alloc (.cells (olds.toArray ++ Builtin.zeroCells z.cells n ++ Builtin.zeroCells z.cells (grownCap w (sLen + n) sCap e - (sLen + n))) e)) := by
  have hn' : ¬ (sLen + n ≤ sCap) := by omega
  have hw : IntKind.i64.wrap (n : Int) = (n : Int) := IntWalk.i64_in _ (by omega)
  have h63' : ¬ (9223372036854775807 < ((sLen : Int) + (n : Int))) := by omega
  have h48' : ¬ (281474976710656 < Builtin.nextslicecap (sLen + n) sCap) := by
    have := growslice_fits (bytes := 1) hg (by omega)
    omega
  have hlt : ¬ ((n : Int) < 0) := by omega
  have hbig : ¬ (281474976710656 < (n : Int)) := by omega
  have hnz : n ≠ 0 := by omega
  have hfo := run_firstCells_some (P := P) w.drew 1 sLen b sLen sCap olds (by omega) (by simpa using holds)
  simp [Builtin.append_, run_underlying ht, run_underlying hti, sizeOf, typeInfo, zeroValue, hi, hz, hs, Builtin.lenOf, hn', h63', h48', Question.forced, hfo, newRow, grownCap, asInt, asIntOf, hw, hlt, hb, hbig, hnz]
end
/-- An append whose run is known. -/
theorem wpList_append_run {P : Program} {w : World} {ops : Array Oper} {rest : List Oper} {o : Oper} {a : Act} {Q : Exit → Act → World → Prop} (hgd : o.guard = none) (s x : Operand) (t u : TypeId)
    (ho : o.op = .call { callee := .builtin .append, args := #[s, x], argTypes := #[t, u] }) (vs vx : Value) (hs : a.eval s = vs) (hx : a.eval x = vx) {v' : Value} {w' : World}
    (hrun : (Builtin.append_ #[t, u] o.type #[vs, vx]).run P w = .ok v' w') (h : wpList P ops Q rest (a.put o.dst v') w') : wpList P ops Q (o :: rest) a w :=
  wpList_plain hgd fun _ hK => by
    unfold Oper.wp execOp
    simp only [ho, resolve, invoke, builtin, Sem.run_bind, Sem.run_pure, Result.andThen_ok, List.map_toArray, List.map_cons, List.map_nil, hs, hx, hrun]
    exact hK _ _ h
theorem zeroCells_list (v : Value) (n : Nat) : Builtin.zeroCells #[v] n = (List.replicate n v).toArray := by
  apply Array.ext'
  simp [Builtin.zeroCells]
  apply List.ext_getElem?
  intro i
  by_cases h : i < n <;> simp [h, Nat.mod_one]
theorem info_byte : (Tryd.prog.info? 5).map (fun i => (i.zero, i.size, i.bytes)) = some (some (.int .u8 0), 1, 1) := by kernel_rfl
/-- Forget how a world was made: keep what is known of it. -/
theorem wp_gen {P : Program} {c : Code} {Q : Exit → Act → World → Prop} {a : Act} {W : World} (F : World → Prop) (hF : F W) (h : ∀ w1, F w1 → Code.wp P c Q a w1) : Code.wp P c Q a W := h W hF
/-- Behind 'end := *h'. -/
def Sum1 (w : World) (m : List UInt8) (w1 : World) : Prop :=
  HashAt w1 (w.heap.size + 1) m ∧ Only Nil w w1 ∧ w1.heap.size = w.heap.size + 1 + 1 ∧ Blk w1 w.heap.size 23 (BC (List.replicate 32 0))
theorem sum_start (w : World) (m l : List UInt8) (z : List Value) (hl : l.length = 64) (hp : l.take (m.length % 64) = rest m) :
    Sum1 w m (((w.alloc (.cells (BC (List.replicate 32 0)).toArray 23)).alloc (.cells z.toArray 75)).setRow (w.heap.size + 1) (HC (state m) l (m.length : Int)).toArray) := by
  have h2 : Blk ((w.alloc (.cells (BC (List.replicate 32 0)).toArray 23)).alloc (.cells z.toArray 75)) (w.heap.size + 1) 75 z := heap_alloc2_new w _ _
  refine ⟨⟨l, hl, hp, h2.row _⟩, (((Only.refl _ _).alloc _).alloc _).setRow (.inr (by omega)) _, by simp, ?_⟩
  exact ((Blk.new w _ (BC (List.replicate 32 0))).alloc _).rowFar (by omega) _
/-- Behind the making of the tail; while its last bytes are written. -/
def Sum2 (w : World) (m : List UInt8) (T : Nat) (i : Nat) (w2 : World) : Prop :=
  HashAt w2 (w.heap.size + 1) m ∧ Only Nil w w2 ∧ Blk w2 w.heap.size 23 (BC (List.replicate 32 0)) ∧ w.heap.size + 1 < T ∧ ∃ spare : List Value, Blk w2 T 5 (BC (tailTo m.length i) ++ spare)
theorem sum_tail {w w1 : World} {m : List UInt8} (h : Sum1 w m w1) (n : Nat) (hn : n = zeros m.length + 8) (k : Nat) :
    Sum2 w m (w1.heap.size + 1) 0 (((w1.alloc (.cells #[.int .u8 128] 5)).alloc (.cells (#[Value.int .u8 128] ++ (Builtin.zeroCells #[Value.int .u8 0] n ++ Builtin.zeroCells #[Value.int .u8 0] k)) 5)).drew) := by
  obtain ⟨h1, h2, h3, h4⟩ := h
  have ho : Only Nil w1 (((w1.alloc (.cells #[.int .u8 128] 5)).alloc (.cells (#[Value.int .u8 128] ++ (Builtin.zeroCells #[Value.int .u8 0] n ++ Builtin.zeroCells #[Value.int .u8 0] k)) 5)).drew) := (((Only.refl _ _).alloc _).alloc _).drew
  refine ⟨h1.only ho id, h2.then ho, ho.blk h4 id, by omega, List.replicate k (Value.int .u8 0), ?_⟩
  have e : (#[Value.int .u8 128] ++ (Builtin.zeroCells #[Value.int .u8 0] n ++ Builtin.zeroCells #[Value.int .u8 0] k)) = (BC (tailTo m.length 0) ++ List.replicate k (Value.int .u8 0)).toArray := by
    rw [zeroCells_list, zeroCells_list, tailTo_zero, hn]
    apply Array.ext'
    simp [BC]
    refine ⟨rfl, ?_⟩
    rw [show Value.int .u8 (by8 0) = Value.int .u8 0 from rfl, List.replicate_append_replicate]
  rw [e]
  have := Blk.new (w1.alloc (.cells #[.int .u8 128] 5)) 5 (BC (tailTo m.length 0) ++ List.replicate k (Value.int .u8 0))
  rw [World.size_alloc] at this
  exact this.drew
theorem by8_ofNat (x : Nat) : by8 (UInt8.ofNat x) = (x : Int) % 256 := by
  unfold by8
  rw [UInt8.toNat_ofNat']
  omega
theorem Sum2.step {w wr : World} {m : List UInt8} {T k : Nat} (h : Sum2 w m T k wr) (hk : k < 8) :
    Sum2 w m T (k + 1) (wr.setCell ⟨T, 1 + zeros m.length + k, none⟩ (.int .u8 ((m.length : Int) * 8 / 2 ^ (56 - 8 * k) % 256))) := by
  obtain ⟨h1, h2, h3, h4, spare, h5⟩ := h
  obtain ⟨l, hl, hp, hB⟩ := h1
  refine ⟨⟨l, hl, hp, hB.far (by simp; omega) _⟩, h2.setCell (.inr (by simp; omega)) _, h3.far (by simp; omega) _, h4, spare, ?_⟩
  have e : (.int .u8 ((m.length : Int) * 8 / 2 ^ (56 - 8 * k) % 256) : Value) = .int .u8 (by8 (UInt8.ofNat (8 * m.length / 2 ^ (56 - 8 * k)))) := by
    rw [by8_ofNat]
    simp [Int.mul_comm]
  rw [e]
  have := h5.set (1 + zeros m.length + k) (.int .u8 (by8 (UInt8.ofNat (8 * m.length / 2 ^ (56 - 8 * k)))))
  rw [List.set_append_left _ _ (by rw [BC_length, tailTo_length _ _ (by omega)]; omega), BC_set, tailTo_set _ _ hk] at this
  exact this
theorem Sum2.reads {w w2 : World} {m : List UInt8} {T : Nat} (h : Sum2 w m T 8 w2) (cap : Nat) (hc : (tail m.length).length ≤ cap) : RB w2 (.slice (some ⟨T, 0, none⟩) (tail m.length).length cap) (tail m.length) := by
  obtain ⟨_, _, _, _, spare, h5⟩ := h
  refine ⟨_, cap, rfl, hc, fun _ => ⟨T, 0, rfl, fun j hj => ?_⟩⟩
  rw [Nat.zero_add, h5.cell, List.getElem?_append_left (by rw [BC_length, tailTo_all]; exact hj), tailTo_all, BC_get _ _ hj]
/-- While the digest's bytes are written out. -/
def outTo (s : S8) (i : Nat) : List UInt8 := (outOf s).take i ++ List.replicate (32 - i) 0
theorem outOf_length (s : S8) : (outOf s).length = 32 := by simp [outOf]
theorem outTo_length (s : S8) (i : Nat) (h : i ≤ 32) : (outTo s i).length = 32 := by simp [outTo, outOf_length]; omega
theorem outTo_set (s : S8) (i : Nat) (h : i < 32) : (outTo s i).set i (Sha.byteOf s i) = outTo s (i + 1) := by
  unfold outTo
  obtain ⟨k, hk⟩ : ∃ k, 32 - i = k + 1 := ⟨32 - i - 1, by omega⟩
  have ht : ((outOf s).take i).length = i := by simp [outOf_length]; omega
  rw [List.set_append_right _ _ (by omega), ht, Nat.sub_self, hk, List.replicate_succ, List.set_cons_zero, show 32 - (i + 1) = k by omega, List.take_add_one]
  simp [outOf, h]
def Sum3 (w : World) (m : List UInt8) (O : Nat) (i : Nat) (w3 : World) : Prop :=
  HashAt w3 (w.heap.size + 1) (m ++ tail m.length) ∧ Only Nil w w3 ∧ Blk w3 w.heap.size 23 (BC (List.replicate 32 0)) ∧ w.heap.size + 1 < O ∧ Blk w3 O 23 (BC (outTo (state (m ++ tail m.length)) i))
theorem Sum3.step {w wr : World} {m : List UInt8} {O k : Nat} (h : Sum3 w m O k wr) (hk : k < 32) {x : BitVec 32} (hx : x = (state (m ++ tail m.length)).list.getD (k / 4) 0) :
    Sum3 w m O (k + 1) (wr.setCell ⟨O, k, none⟩ (.int .u8 (wd x / 2 ^ (24 - 8 * (k % 4)) % 256))) := by
  obtain ⟨h1, h2, h3, h4, h5⟩ := h
  obtain ⟨l, hl, hp, hB⟩ := h1
  refine ⟨⟨l, hl, hp, hB.far (by simp; omega) _⟩, h2.setCell (.inr (by simp; omega)) _, h3.far (by simp; omega) _, h4, ?_⟩
  have e : (.int .u8 (wd x / 2 ^ (24 - 8 * (k % 4)) % 256) : Value) = .int .u8 (by8 (Sha.byteOf (state (m ++ tail m.length)) k)) := by
    rw [Sha.byteOf, by8_ofNat, ← hx]
    simp [wd]
  rw [e]
  have := h5.set k (.int .u8 (by8 (Sha.byteOf (state (m ++ tail m.length)) k)))
  rw [BC_set, outTo_set _ _ hk] at this
  exact this
set_option maxHeartbeats 1600000 in
set_option maxRecDepth 100000 in
theorem hsum_any (g : Nat) (m : List UInt8) (w : World) (hH : HashAt w g m) (hlen : m.length ≤ 900000000000000000) :
    Calls Tryd.prog 38 #[.pointer (some ⟨g, 0, none⟩)] w fun e w' => e = .returned (.agg (BC (sha m)).toArray) ∧ Only Nil w w' := by
  obtain ⟨l, hl, hp, hB⟩ := hH
  have hsz : (HC (state m) l (m.length : Int)).toArray.size = 73 := by rw [List.size_toArray, HC_length, hl]
  have h1 : ∀ v ∈ HC (state m) l (m.length : Int), v.oneCell' = true := by
    intro v hv
    simp only [HC, List.mem_append, List.mem_singleton] at hv
    rcases hv with (hv | hv) | rfl
    · exact WC_one _ v hv
    · exact BC_one _ v hv
    · rfl
  have hz : ∀ W : World, (zeroValue 75).run Tryd.prog W = .ok (.agg (HC ⟨0, 0, 0, 0, 0, 0, 0, 0⟩ (List.replicate 64 0) 0).toArray) W := fun W => by kernel_rfl
  go_enter Tryd.func38, Tryd.ntmps38
  go_upto_region 2 with (first
    | ((with_reducible show wpList _ _ _ (Oper.mk _ (.load 75 _) _ _ _ _ :: _) _ _); refine wpList_load_row rfl 75 (.tmp 11) rfl g rfl 75 (HC (state m) l (m.length : Int)).toArray (0, 0) _ (hB.alloc _) Tryd.underlying75 rfl (by rw [hsz]; kernel_rfl) ?_)
    | ((with_reducible show wpList _ _ _ (Oper.mk _ (.store 75 _ _) _ _ _ _ :: _) _ _); refine wpList_store_row rfl 75 (.tmp 3) (.tmp 12) rfl (w.heap.size + 1) (HC (state m) l (m.length : Int)).toArray rfl rfl _ _ (heap_alloc2_new w _ _) (by rw [hsz]; kernel_rfl) (by rw [hsz]; rfl) (all_oneCell_toArray h1) ?_))
  refine wp_gen (Sum1 w m) (sum_start w m l (HC ⟨0, 0, 0, 0, 0, 0, 0, 0⟩ (List.replicate 64 0) 0) hl hp) ?_
  intro w1 hw1
  have hg : w1.cell? ⟨g, 72, none⟩ = some (.int .i64 (m.length : Int)) := HC_n (hw1.2.1.blk hB id) hl
  clear hB hp hl hsz h1 hz
  obtain ⟨Z, hZ⟩ : ∃ Z, Z = zeros m.length := ⟨_, rfl⟩
  have eZ : (119 - (m.length : Int) % 64) % 64 = (Z : Int) := by rw [hZ]; unfold zeros; omega
  have hZ64 : Z < 64 := by rw [hZ]; unfold zeros; omega
  have hZi : (Z : Int) < 64 := by omega
  obtain ⟨ib, hib, hbz, hbs, hbb⟩ := info_parts info_byte
  have hT0 : ∀ (j : Nat) (v : Value), [Value.int .u8 128][j]? = some v → (w1.alloc (.cells #[.int .u8 128] 5)).cell? ((⟨w1.heap.size, 0, none⟩ : Addr).add j) = some v := by
    intro j v hj
    have := (Blk.new w1 5 [Value.int .u8 128]).cell j
    rw [Addr.add_mid, Nat.zero_add]
    exact this.trans hj
  have happ := fun ty => run_append_zeros (P := Tryd.prog) (w1.alloc (.cells #[.int .u8 128] 5)) 26 3 ty 5 ib (.int .u8 0) Tryd.underlying26 Tryd.underlying3 hib hbz hbs hbb ⟨w1.heap.size, 0, none⟩ 1 1 [.int .u8 128] rfl hT0 (Z + 8) (by omega) (by omega) (by omega)
  simp only [Int.natCast_add, World.size_alloc] at happ
  have happ2 : ∀ ty, (Builtin.append_ #[26, 3] ty #[.slice (some ⟨w1.heap.size, 0, none⟩) 1 1, .int .i64 ((Z : Int) + 8)]).run Tryd.prog (w1.alloc (.cells #[.int .u8 128] 5)) =
      .ok (.slice (some ⟨w1.heap.size + 1, 0, none⟩) (1 + (Z + 8)) (grownCap (w1.alloc (.cells #[.int .u8 128] 5)) (1 + (Z + 8)) 1 5)) ((w1.alloc (.cells #[.int .u8 128] 5)).drew.alloc (.cells (([Value.int .u8 128] : List Value).toArray ++ Builtin.zeroCells (Value.int .u8 0).cells (Z + 8) ++ Builtin.zeroCells (Value.int .u8 0).cells (grownCap (w1.alloc (.cells #[.int .u8 128] 5)) (1 + (Z + 8)) 1 5 - (1 + (Z + 8)))) 5)) := happ
  have hcap := grownCap_ge (w1.alloc (.cells #[.int .u8 128] 5)) (1 + (Z + 8)) 1 5
  generalize grownCap (w1.alloc (.cells #[.int .u8 128] 5)) (1 + (Z + 8)) 1 5 = cap at *
  clear happ hT0
  clear hib hbz hbs hbb
  have HW1 := Lib.hid hw1
  have HZ := Lib.hid hZ
  clear hw1 hZ
  have HA := Lib.hid happ2
  clear happ2
  go_upto_region 5 with (at_builtin; refine wpList_append_run rfl (.tmp 26) (.tmp 28) 26 3 rfl _ _ rfl rfl (HA.out _) ?_)
  refine wp_gen (Sum2 w m (w1.heap.size + 1) 0) (sum_tail HW1.out (Z + 8) (by rw [HZ.out]) (cap - (1 + (Z + 8)))) ?_
  intro w2 hw2
  generalize w1.heap.size + 1 = T at *
  have HC := Lib.hid hcap
  clear hg HA HW1 hcap
  go_wp2
  go_loopw [7, 30] (fun _ i wr => ∃ k : Nat, k ≤ 8 ∧ i = .int .i64 k ∧ Sum2 w m T k wr) (fun _ i _ => 8 - (intOf i).toNat)
  case atStart => exact ⟨0, Nat.zero_le _, rfl, hw2⟩
  case round =>
    obtain ⟨k, hk, rfl, hS⟩ := hrel
    by_cases hlt : k < 8
    · obtain ⟨spare, hT⟩ := hS.2.2.2.2
      have c0 := hT.cell (1 + Z + k)
      rw [List.getElem?_append_left (by rw [BC_length, tailTo_length _ _ hk, ← HZ.out]; omega), BC_get _ _ (by rw [tailTo_length _ _ hk, ← HZ.out]; omega)] at c0
      have f0 := hT.free (1 + Z + k)
      have HS := Lib.hid hS
      have HT := Lib.hid hT
      clear hS hT hw2
      have ek : (56 : Int) - 8 * (k : Int) = ((56 - 8 * k : Nat) : Int) := by omega
      go_wp2
      go_roundw
      case rel =>
        refine ⟨k + 1, by omega, by go_num, ?_⟩
        have := HS.out.step hlt
        rw [← HZ.out] at this
        exact this
      case measure => simp [intOf]; omega
    · have H8 := Lib.hid (show k = 8 by omega)
      have HS := Lib.hid hS
      have hS8 := hS
      rw [H8.out] at hS8
      have hlt' : (tail m.length).length = 1 + (Z + 8) := by rw [tail_length, ← HZ.out]; omega
      have hRB := hS8.reads cap (by rw [hlt']; exact HC.out)
      have hd : blkOf (.slice (some ⟨T, 0, none⟩) (tail m.length).length cap) ≠ some (w.heap.size + 1) := by
        have := hS8.2.2.2.1
        simp [blkOf]
        omega
      rw [hlt'] at hRB hd
      have HR := Lib.hid hRB
      have HD := Lib.hid hd
      have HL := Lib.hid hlt'
      have HS8 := Lib.hid hS8
      clear hS hS8 hlt' hRB hd hw2
      go_upto_region 12 with (go_at_call 44; refine (write_any (w.heap.size + 1) m (tail m.length) _ _ HS8.out.1 HR.out HD.out (by rw [HL.out]; omega)).mono ?_; rintro e w3 ⟨rfl, hh3, ho3⟩)
      have HS3 := Lib.hid (show HashAt w3 (w.heap.size + 1) (m ++ tail m.length) ∧ Only Nil w w3 ∧ Blk w3 w.heap.size 23 (BC (List.replicate 32 0)) from
        ⟨hh3, HS8.out.2.1.trans ho3 (fun i hi => .inr (by rw [hi]; omega)), ho3.blk HS8.out.2.2.1 (fun h => by have : w.heap.size = w.heap.size + 1 := h; omega)⟩)
      have hsz : w.heap.size + 1 < w3.heap.size := hh3.lt
      have HSZ := Lib.hid hsz
      clear hh3 ho3 hsz
      refine wp_gen (Sum3 w m w3.heap.size 0) ?_ ?_
      · obtain ⟨⟨l, hl, hp, hB⟩, h2, h3⟩ := HS3.out
        exact ⟨⟨l, hl, hp, hB.alloc _⟩, h2.alloc _, h3.alloc _, HSZ.out, Blk.new w3 _ _⟩
      intro w4 hw4
      generalize w3.heap.size = O at *
      clear HS3 HSZ HS8 HR HD HS H8
      go_wp2
      go_loopw [9, 48] (fun _ i wr => ∃ k : Nat, k ≤ 32 ∧ i = .int .i64 k ∧ Sum3 w m O k wr) (fun _ i _ => 32 - (intOf i).toNat)
      case atStart => exact ⟨0, Nat.zero_le _, rfl, hw4⟩
      case round =>
        clear hw4
        obtain ⟨k, hk, rfl, hS⟩ := hrel
        by_cases hlt : k < 32
        · obtain ⟨lb, hl, hp, hB⟩ := hS.1
          have c0 := HC_word hB (k / 4) (by omega)
          have c1 := hS.2.2.2.2.cell k
          rw [BC_get _ _ (by rw [outTo_length _ _ hk]; exact hlt)] at c1
          have f1 := hS.2.2.2.2.free k
          generalize hx : (state (m ++ tail m.length)).list.getD (k / 4) 0 = x at *
          have HX := Lib.hid hx
          have HS := Lib.hid hS
          clear hx hS hB hp hl
          have ek : (24 : Int) - 8 * ((k : Int) % 4) = ((24 - 8 * (k % 4) : Nat) : Int) := by omega
          have eq4 : ((k : Int) / 4).toNat = k / 4 := by omega
          go_wp2
          go_roundw
          case rel => exact ⟨k + 1, by omega, by go_num, HS.out.step hlt HX.out.symm⟩
          case measure => simp [intOf]; omega
        · have H32 := Lib.hid (show k = 32 by omega)
          have hS2 := hS
          rw [H32.out] at hS2
          obtain ⟨_, h2, h3, h4, h5⟩ := hS2
          have eo : outTo (state (m ++ tail m.length)) 32 = sha m := by
            unfold outTo
            rw [List.take_of_length_le (by rw [outOf_length]; omega)]
            simp [sha]
          rw [eo] at h5
          have hn : (BC (sha m)).toArray.size = 32 := by simp [BC_length, sha_length]
          clear hS eo
          go_wp2_with (first
            | ((with_reducible show wpList _ _ _ (Oper.mk _ (.load 23 _) _ _ _ _ :: _) _ _); refine wpList_load_row rfl 23 (.tmp 8) rfl O rfl 23 (BC (sha m)).toArray (0, 0) _ h5 Tryd.underlying23 rfl (by rw [hn]; kernel_rfl) ?_)
            | ((with_reducible show wpList _ _ _ (Oper.mk _ (.store 23 _ _) _ _ _ _ :: _) _ _); refine wpList_store_row rfl 23 (.tmp 2) (.tmp 65) rfl w.heap.size (BC (sha m)).toArray rfl rfl _ _ h3 (by rw [hn]; kernel_rfl) (by rw [hn]; simp [BC_length]) (all_oneCell_toArray (BC_one _)) ?_))
          refine bodyPost_ret (results_cell_row rfl _ _ w.heap.size 23 (BC (sha m)).toArray (0, 0) _ rfl (setRow_heap _ _ _ _ _ _ h3) Tryd.underlying23 rfl (by rw [hn]; kernel_rfl)) rfl ⟨rfl, h2.setRow (.inr (by omega)) _⟩
end Go.Proofs.YthkongkbefpilaaDoor
