/-
  The walks of digest.Unhex and of the reference's Unhex.
-/
import Derived.Test.YthkongkbefpilaaDoorDig9
namespace Go.Proofs.YthkongkbefpilaaDoor
open Go.RowKit Sha
theorem results_cell_slot {P : Program} {fn : Func} {p q : Tmp} {ty : TypeId} (h : fn.results = #[.cell p ty, .tmp q]) (tmps : Array Value) (w : World) (g : Nat) (t : TypeId) (cs : Array Value) (fr : Nat × Nat) (d : TypeDesc)
    (hp : tmps.getD p undef = .pointer (some ⟨g, 0, none⟩)) (hg : w.heap[g]? = some (.cells cs t fr))
    (hu : P.underlying ty = some d) (hd : (match d with | .struct _ | .array _ _ => true | _ => false) = true) (hi : (P.info? ty).map (·.size) = some cs.size) {u : Value} (hq : tmps.getD q undef = u) :
    (results fn tmps).run P w = .ok (.tuple #[.agg cs, u]) w := by
  have hp' : tmps[p]?.getD undef = .pointer (some ⟨g, 0, none⟩) := by simpa using hp
  have hq' : tmps[q]?.getD undef = u := by simpa using hq
  simp [results, h, hp', hq', asAddr, run_loadVar_row w g t ty cs fr d hg hu hd hi]
theorem str_size (bs : List UInt8) : (str bs).size = bs.length := by simp [str, ByteArray.size]
theorem str_of_data (s : ByteArray) : s = str s.data.toList := by cases s; rfl
theorem str_index {P : Program} (t : TypeId) (h : P.underlying t = some .string) (bs : List UInt8) (k : IntKind) (j : Nat) (hj : j < bs.length) (W : World) : (Instr.index t (.string (str bs)) (.int k (j : Int))).run P W = .ok (.int .u8 (by8 (bs.getD j 0))) W := by
  rw [run_index_string W t (str bs) k j h, dif_pos ⟨by omega, by rw [str_size]; omega⟩]
  congr 2
  unfold by8
  congr 2
  rw [List.getD, List.getElem?_eq_getElem hj]
  rfl
def zeros32 : List UInt8 := List.replicate 32 0
def un (bs : List UInt8) : List UInt8 := if isHex bs then unhex bs else zeros32
def unNo (bs : List UInt8) : Int := if isHex bs then 0 else 20
def unTo (bs : List UInt8) (k : Nat) : List UInt8 := (unhex bs).take k ++ List.replicate (32 - k) 0
theorem unhex_length (bs : List UInt8) : (unhex bs).length = 32 := by simp [unhex]
theorem unTo_length (bs : List UInt8) (k : Nat) (h : k ≤ 32) : (unTo bs k).length = 32 := by simp [unTo, unhex_length]; omega
theorem unTo_set (bs : List UInt8) (i : Nat) (h : i < 32) : (unTo bs i).set i (unAt bs i) = unTo bs (i + 1) := by
  unfold unTo
  obtain ⟨k, hk⟩ : ∃ k, 32 - i = k + 1 := ⟨32 - i - 1, by omega⟩
  have ht : ((unhex bs).take i).length = i := by simp [unhex_length]; omega
  rw [List.set_append_right _ _ (by omega), ht, Nat.sub_self, hk, List.replicate_succ, List.set_cons_zero, show 32 - (i + 1) = k by omega, List.take_add_one]
  simp [unhex, h]
theorem unTo_all (bs : List UInt8) : unTo bs 32 = unhex bs := by unfold unTo; rw [List.take_of_length_le (by rw [unhex_length]; omega)]; simp
theorem okTo_succ (bs : List UInt8) (k : Nat) : okTo bs (k + 1) = (okTo bs k && okAt bs k) := by unfold okTo; rw [List.range_succ, List.all_append]; simp
theorem okTo_no (bs : List UInt8) (k n : Nat) (h : k < n) (hk : okAt bs k = false) : okTo bs n = false := by
  unfold okTo
  rw [List.all_eq_false]
  exact ⟨k, List.mem_range.2 h, by simp [hk]⟩
theorem un_no (bs : List UInt8) (h : isHex bs = false) : un bs = zeros32 ∧ unNo bs = 20 := by unfold un unNo; rw [h]; exact ⟨rfl, rfl⟩
theorem un_yes (bs : List UInt8) (h : isHex bs = true) : un bs = unhex bs ∧ unNo bs = 0 := by unfold un unNo; rw [h]; exact ⟨rfl, rfl⟩
theorem isHex_no_at (bs : List UInt8) (k : Nat) (h : k < 32) (hk : okAt bs k = false) : isHex bs = false := by unfold isHex; rw [okTo_no bs k 32 h hk]; simp
theorem isHex_no_len (bs : List UInt8) (h : bs.length ≠ 64) : isHex bs = false := by unfold isHex; simp [h]
theorem or_halves (x y : UInt8) (hx : x.toNat < 16) (hy : y.toNat < 16) : bits .or .u8 (IntKind.u8.wrap (by8 x * 16)) (by8 y) = by8 (UInt8.ofNat (x.toNat * 16 + y.toNat)) := by
  obtain ⟨a, ha⟩ : ∃ a, a = x.toNat := ⟨_, rfl⟩
  obtain ⟨b, hb⟩ : ∃ b, b = y.toNat := ⟨_, rfl⟩
  unfold by8
  rw [← ha] at hx ⊢
  rw [← hb] at hy ⊢
  have : ∀ a : Nat, a < 16 → ∀ b : Nat, b < 16 → bits .or .u8 (IntKind.u8.wrap ((a : Int) * 16)) (b : Int) = ((UInt8.ofNat (a * 16 + b)).toNat : Int) := by decide +kernel
  exact this a hx b hy
theorem add_halves (x y : UInt8) (_ : x.toNat < 16) (_ : y.toNat < 16) : IntKind.u8.wrap (IntKind.u8.wrap (by8 x * 16) + by8 y) = by8 (UInt8.ofNat (x.toNat * 16 + y.toNat)) := by
  have h1 := by8_ofNat (x.toNat * 16 + y.toNat)
  rw [h1]
  unfold by8
  rw [IntKind.wrap_u8, IntKind.wrap_u8]
  omega
def UnAt (w : World) (bs : List UInt8) (k : Nat) (wr : World) : Prop :=
  Only Nil w wr ∧ Blk wr w.heap.size 23 (BC zeros32) ∧ Blk wr (w.heap.size + 1) 23 (BC (unTo bs k))
theorem UnAt.step {w wr : World} {bs : List UInt8} {k : Nat} (h : UnAt w bs k wr) (hk : k < 32) {v : Int} (hv : v = by8 (unAt bs k)) : UnAt w bs (k + 1) (wr.setCell ⟨w.heap.size + 1, k, none⟩ (.int .u8 v)) := by
  refine ⟨h.1.setCell (.inr (by simp)) _, h.2.1.far (by simp) _, ?_⟩
  have := h.2.2.set k (.int .u8 (by8 (unAt bs k)))
  rw [BC_set, unTo_set _ _ hk] at this
  rw [hv]
  exact this
theorem UnAt.start (w : World) (bs : List UInt8) : UnAt w bs 0 ((w.alloc (.cells (BC zeros32).toArray 23)).alloc (.cells (BC zeros32).toArray 23)) := by
  refine ⟨((Only.refl _ _).alloc _).alloc _, (Blk.new w _ _).alloc _, ?_⟩
  have := Blk.new (w.alloc (.cells (BC zeros32).toArray 23)) 23 (BC zeros32)
  rw [World.size_alloc] at this
  exact this
theorem build_zeros (W : World) : (Instr.build 23 #[]).run Tryd.prog W = .ok (.agg (BC zeros32).toArray) W := by kernel_rfl
end Go.Proofs.YthkongkbefpilaaDoor
