/-
  The walks of digest.Hex and of the reference's Hex.
-/
import Derived.Test.YthkongkbefpilaaDoorDig7
import Derived.Laws.BytesArg
namespace Go.Proofs.YthkongkbefpilaaDoor
open Go.RowKit Sha
def str (bs : List UInt8) : ByteArray := ⟨bs.toArray⟩
theorem strOfNums_by8 (bs : List UInt8) : strOfNums (bs.map by8) = str bs := by
  unfold strOfNums str by8
  rw [List.map_map]
  congr 2
  conv => rhs; rw [← List.map_id bs]
  apply List.map_congr_left
  intro c _
  exact UInt8.toNat_inj.1 (by
    show (UInt8.ofNat ((c.toNat : Int)).toNat).toNat = c.toNat
    rw [Int.toNat_natCast, UInt8.toNat_ofNat']
    exact Nat.mod_eq_of_lt c.toNat_lt)
theorem str_of {P : Program} {w : World} {src e dst : TypeId} (hs : P.underlying src = some (.slice e)) (he : P.underlying e = some (.int .u8)) (hd : P.underlying dst = some .string) {v : Value} {bs : List UInt8} (h : RB w v bs) :
    (convert src dst v).run P w = .ok (.string (str bs)) w := by
  obtain ⟨A, c, rfl, hc, hr⟩ := h
  by_cases h0 : 0 < bs.length
  · obtain ⟨g, o, rfl, hcell⟩ := hr h0
    rw [← strOfNums_by8]
    refine run_convert_bytes_arg w src e hs he g o bs.length c (bs.map by8) (by simp) (fun i hi => ?_) dst hd
    rw [hcell i hi]
    simp [List.getD, hi]
  · obtain rfl : bs = [] := List.eq_nil_of_length_eq_zero (by omega)
    rw [run_convert_bytes_string w src dst e _ _ _ hs he hd]
    cases A with
    | none => simp [Conv.bytesToString, str]; rfl
    | some a =>
      exact run_bytesToString w a 0 c [] (by rfl)
def OB (w : World) (base : Nat) (v : Value) (bs : List UInt8) : Prop := w.ownsRow base 5 1 v bs.length (BC bs)
theorem OB.reads {w : World} {base : Nat} {v : Value} {bs : List UInt8} (h : OB w base v bs) : RB w v bs := by
  rcases h.2 with ⟨rfl, h0⟩ | ⟨g, cap, cur, rfl, _, _, hn, _⟩
  · exact ⟨none, 0, by rw [h0], by omega, fun h => absurd h (by omega)⟩
  · refine ⟨some ⟨g, 0, none⟩, cap, rfl, hn, fun _ => ⟨g, 0, rfl, fun j hj => ?_⟩⟩
    have := World.ownsRow.cells h (g := g) rfl j _ (BC_get bs j hj)
    rwa [Addr.add_mid] at this
theorem OB.nil (w : World) (base : Nat) : OB w base (.slice none 0 0) [] := ⟨rfl, .inl ⟨rfl, rfl⟩⟩
theorem OB.only {w w' : World} {base : Nat} {v : Value} {bs : List UInt8} {S : Nat → Prop} (h : OB w base v bs) (ho : Only S w w') (hS : ∀ g, v.ownBlock = some g → ¬ S g) : OB w' base v bs := by
  obtain ⟨h1, h2⟩ := h
  refine ⟨h1, ?_⟩
  rcases h2 with h2 | ⟨g, cap, cur, rfl, hg, hh, r⟩
  · exact .inl h2
  · exact .inr ⟨g, cap, cur, rfl, hg, (ho.block g (Array.getElem?_eq_some_iff.1 hh).1 (hS g rfl)).trans hh, r⟩
section
variable {P : Program} {w : World} {ops : Array Oper} {o : Oper} {a : Act} {K : Act → World → Prop} {Q : Exit → Act → World → Prop} {E : Prop}
theorem step_append_fits (hgd : o.guard = none) (s x : Operand) (t : TypeId) (hop : o.op = Op.call { callee := Callee.builtin Builtin.append, args := #[s, x], argTypes := #[t, t] })
    (base : Nat) (e : TypeId) (i : TypeInfo) (size : Nat) (h1 : P.underlying t = some (.slice e)) (h2 : P.info? e = some i) (h4 : i.size = size)
    (g k cap : Nat) (xs : List Value) (hs : a.eval s = .slice (some ⟨g, 0, none⟩) k cap) (hown : w.ownsRow base e size (.slice (some ⟨g, 0, none⟩) k cap) k xs) (ad : Addr) (m c : Nat) (news : List Value) (hx : a.eval x = .slice (some ad) m c) (hn : news.length = m * size)
    (hc : ∀ j u, news[j]? = some u → w.cell? (ad.add j) = some u) (h1c : ∀ u ∈ news, u.oneCell' = true) (b1 : k + m ≤ cap)
    (hK : ∀ w', w'.ownsRow base e size (.slice (some ⟨g, 0, none⟩) (k + m) cap) (k + m) (xs ++ news) → w.grownBy w' (some g) → K (a.put o.dst (.slice (some ⟨g, 0, none⟩) (k + m) cap)) w') :
    if Region.wanted o (yielded ops a.tmps) = true then Oper.wp P o a w K Q else E := by
  rw [if_pos (by simp [Region.wanted, hgd])]
  obtain ⟨w', hrun, r1, r2⟩ := run_append_fits (P := P) w base t o.type e i size h1 h2 h4 g k cap xs hown ad m c news hn hc h1c b1
  unfold Oper.wp
  simp [execOp, hop, resolve, invoke, builtin, hs, hx, hrun, Result.andThen]
  exact hK w' r1 r2
end
theorem news_block {w : World} {g : Nat} {t : TypeId} {cs : List Value} (h : Blk w g t cs) : ∀ j u, cs[j]? = some u → w.cell? ((⟨g, 0, none⟩ : Addr).add j) = some u := by
  intro j u hu
  rw [Addr.add_mid, Nat.zero_add, h.cell]
  exact hu
theorem hexd_index (x : UInt8) (h : x.toNat < 16) (W : World) : (Instr.index 9 (.string ⟨#[48, 49, 50, 51, 52, 53, 54, 55, 56, 57, 97, 98, 99, 100, 101, 102]⟩) (.int .u8 (by8 x))).run Tryd.prog W = .ok (.int .u8 (by8 (hexd x))) W := by
  obtain ⟨n, hn⟩ : ∃ n, n = x.toNat := ⟨_, rfl⟩
  have hx : x = UInt8.ofNat n := by rw [hn]; exact UInt8.toNat_inj.1 (by rw [UInt8.toNat_ofNat']; have := x.toNat_lt; omega)
  rw [← hn] at h
  subst hx
  clear hn
  have : ∀ n, n < 16 → (Instr.index 9 (.string ⟨#[48, 49, 50, 51, 52, 53, 54, 55, 56, 57, 97, 98, 99, 100, 101, 102]⟩) (.int .u8 (by8 (UInt8.ofNat n)))).run Tryd.prog W = .ok (.int .u8 (by8 (hexd (UInt8.ofNat n)))) W := by
    intro n hn
    rcases (show n = 0 ∨ n = 1 ∨ n = 2 ∨ n = 3 ∨ n = 4 ∨ n = 5 ∨ n = 6 ∨ n = 7 ∨ n = 8 ∨ n = 9 ∨ n = 10 ∨ n = 11 ∨ n = 12 ∨ n = 13 ∨ n = 14 ∨ n = 15 by omega) with rfl | rfl | rfl | rfl | rfl | rfl | rfl | rfl | rfl | rfl | rfl | rfl | rfl | rfl | rfl | rfl <;> kernel_rfl
  exact this n h
theorem by8_hi (x : UInt8) : by8 x / 16 = by8 (hi8 x) := by unfold by8; rw [hi8_toNat]; omega
theorem by8_lo (x : UInt8) : bits .and .u8 (by8 x) 15 = by8 (lo8 x) := by
  rw [u8_and15 _ (by8_ge x) (by8_lt x)]
  unfold by8
  rw [lo8_toNat]
  omega
theorem hex_succ (d : List UInt8) (k : Nat) (h : k < d.length) : hex (d.take (k + 1)) = hex (d.take k) ++ [hexd (hi8 (d.getD k 0)), hexd (lo8 (d.getD k 0))] := by
  rw [List.take_add_one, hex_append]
  simp [hex, List.getD, h]
def zeros64 : List UInt8 := List.replicate 64 0
theorem OB.step {w wr w2 : World} {g n cap : Nat} {bs c : List UInt8} {X : Obj} (h : wr.ownsRow w.heap.size 5 1 (.slice (some ⟨g, 0, none⟩) n cap) n (BC bs)) (ho : Only Nil w wr) {m : Nat} (hl : (bs ++ c).length = m)
    (h2 : w2.ownsRow w.heap.size 5 1 (.slice (some ⟨g, 0, none⟩) m cap) m (BC bs ++ BC c)) (hg : (wr.alloc X).drew.grownBy w2 (some g)) : OB w2 w.heap.size (.slice (some ⟨g, 0, none⟩) m cap) (bs ++ c) ∧ Only Nil w w2 := by
  have hb := (World.ownsRow.lt h g rfl).1
  refine ⟨?_, ((ho.alloc X).drew).trans (Only.of_grown (S := One g) hg (fun k hk => .inl (Option.some.inj hk).symm)) (fun i hi => .inr (by rw [hi]; exact hb))⟩
  unfold OB
  rw [hl, BC_append]
  exact h2
/-- While the text is laid. -/
def HexAt (w : World) (d : List UInt8) (g : Nat) (k : Nat) (wr : World) : Prop := OB wr w.heap.size (.slice (some ⟨g, 0, none⟩) (2 * k) 64) (hex (d.take k)) ∧ Only Nil w wr
theorem ob_made (W : World) (base : Nat) (hb : base ≤ W.heap.size) (z : List UInt8) (hz : z.length = 64) : OB (W.alloc (.cells (BC z).toArray 5)) base (.slice (some ⟨W.heap.size, 0, none⟩) 0 64) [] :=
  ⟨rfl, .inr ⟨W.heap.size, 64, (BC z).toArray, rfl, hb, heap_alloc_new W _, by simp, by unfold maxLen; omega, by simp [BC_length, hz], by simp [BC]⟩⟩
end Go.Proofs.YthkongkbefpilaaDoor
