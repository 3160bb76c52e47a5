/-
  A script that comes in (a row of calls), and its bound ('beyond').
-/
import Derived.Test.YthkongkbefpilaaDoorHd
import Derived.Lib.ConvBytes
namespace Go.Proofs.YthkongkbefpilaaDoor
set_option maxRecDepth 100000
open Go.RowKit Sha

structure OpV where
  kind : Int
  a : Option Addr
  cap : Nat
  bs : List UInt8
def OpV.d (e : OpV) : Value := .slice e.a e.bs.length e.cap
def OpV.cells (e : OpV) : List Value := [.int .i64 e.kind, .slice e.a e.bs.length e.cap]
def OpV.ok (W : World) (e : OpV) : Prop := RB W e.d e.bs
def op0 : OpV := ⟨0, none, 0, []⟩
def Ops (w : World) (v : Value) (l : List OpV) : Prop :=
  ∃ A c, v = .slice A l.length c ∧ l.length ≤ c ∧ (0 < l.length → ∃ g o, A = some ⟨g, o, none⟩ ∧ ∀ j, j < l.length → (∀ i, i < 2 → w.cell? ⟨g, o + j * 2 + i, none⟩ = (l.getD j op0).cells[i]?) ∧ (l.getD j op0).ok w)
theorem RB.lt {W : World} {v : Value} {bs : List UInt8} (h : RB W v bs) (h0 : 0 < bs.length) : ∀ k, blkOf v = some k → k < W.heap.size := by
  obtain ⟨A, c, rfl, hc, hr⟩ := h
  obtain ⟨g, o, rfl, hcell⟩ := hr h0
  intro k hk
  have := World.block_lt_of_cell? _ _ (hcell 0 h0)
  rw [← Option.some.inj hk]
  exact this
theorem Ops.at' {w : World} {A : Option Addr} {n c : Nat} {l : List OpV} (h : Ops w (.slice A n c) l) (k : Nat) (hk : k < l.length) : ∃ g o, A = some ⟨g, o, none⟩ ∧ w.cell? ⟨g, o + k * 2, none⟩ = some (.int .i64 (l.getD k op0).kind) ∧ w.cell? ⟨g, o + k * 2 + 1, none⟩ = some (l.getD k op0).d ∧ RB w (l.getD k op0).d (l.getD k op0).bs := by
  obtain ⟨A', c', e, _, hr⟩ := h
  injection e with e1 e2 e3
  subst e1 e2 e3
  obtain ⟨g, o, rfl, hat⟩ := hr (by omega)
  obtain ⟨h1, h2⟩ := hat k hk
  exact ⟨g, o, rfl, h1 0 (by omega), h1 1 (by omega), h2⟩
theorem Ops.only {w w' : World} {v : Value} {l : List OpV} (h : Ops w v l) (ho : Only Nil w w') : Ops w' v l := by
  obtain ⟨A, c, e, hc, hr⟩ := h
  refine ⟨A, c, e, hc, fun h0 => ?_⟩
  obtain ⟨g, o, rfl, hat⟩ := hr h0
  refine ⟨g, o, rfl, fun j hj => ?_⟩
  obtain ⟨h1, h2⟩ := hat j hj
  refine ⟨fun i hi => ?_, h2.only ho fun _ _ => id⟩
  have h3 := h1 i hi
  have : ∃ u, (l.getD j op0).cells[i]? = some u := ⟨_, List.getElem?_eq_getElem (show i < (l.getD j op0).cells.length from hi)⟩
  obtain ⟨u, hu⟩ := this
  rw [hu] at h3 ⊢
  exact ho.cell h3 id
def costE (l : List OpV) : Nat := (l.map fun e => 1 + e.bs.length).sum
def beyE (l : List OpV) : Bool := decide (2147483647 < costE l)
theorem costE_succ (l : List OpV) (k : Nat) (h : k < l.length) : costE (l.take (k + 1)) = costE (l.take k) + (1 + (l.getD k op0).bs.length) := by
  unfold costE
  rw [List.take_add_one, List.map_append, List.sum_append]
  simp [List.getD, h]
theorem costE_le (l : List OpV) (k : Nat) : costE (l.take k) ≤ costE l := by
  have := congrArg costE (List.take_append_drop k l)
  unfold costE at *
  rw [List.map_append, List.sum_append] at this
  omega
theorem costE_len (l : List OpV) : l.length ≤ costE l := by
  induction l with
  | nil => exact Nat.zero_le _
  | cons x r ih =>
    have e : costE (x :: r) = 1 + x.bs.length + costE r := by simp [costE]
    rw [e, List.length_cons]
    omega
theorem beyE_false {l : List OpV} (h : beyE l = false) : l.length ≤ 2147483647 ∧ costE l ≤ 2147483647 := by
  unfold beyE at h
  have := costE_len l
  simp at h
  omega
set_option maxHeartbeats 1600000 in
theorem beyond_any (v : Value) (l : List OpV) (w : World) (hv : Ops w v l) (hd : ∀ j, j < l.length → (l.getD j op0).bs.length ≤ 140737488355328) (hn : l.length ≤ 1000000000000000) :
    Calls Tryd.prog 12 #[v] w fun e w' => e = .returned (.bool (beyE l)) ∧ w = w' := by
  obtain ⟨A, c, rfl, hc, hrow⟩ := hv
  have HR := Lib.hid hrow
  have HD := Lib.hid hd
  clear hrow hd
  go_enter Tryd.func12, Tryd.ntmps12
  go_wp2
  go_loopw [3, 4] (fun a i wr => ∃ k : Nat, k ≤ l.length ∧ i = .int .i64 k ∧ a = .int .i64 (costE (l.take k)) ∧ costE (l.take k) ≤ 200000000000000 ∧ wr = w) (fun _ i _ => l.length - (intOf i).toNat)
  case atStart => exact ⟨0, Nat.zero_le _, rfl, rfl, by simp [costE], rfl⟩
  case round =>
    obtain ⟨k, hk, rfl, rfl, hcb, rfl⟩ := hrel
    by_cases hlt : k < l.length
    · by_cases hbd : costE (l.take k) ≤ 2147483647
      · obtain ⟨g, o, rfl, hcell⟩ := HR.out (by omega)
        have c6 : wr.cell? ⟨g, o + k * 2 + 1, none⟩ = some (.slice (l.getD k op0).a (l.getD k op0).bs.length (l.getD k op0).cap) := (hcell k hlt).1 1 (by omega)
        have hsucc := costE_succ l k hlt
        have hdl := HD.out k hlt
        generalize (l.getD k op0).bs.length = L at *
        generalize (l.getD k op0).a = a at *
        generalize (l.getD k op0).cap = cp at *
        clear HR hcell
        generalize costE (l.take k) = S at *
        generalize hS' : costE (l.take (k + 1)) = S' at *
        have HS' := Lib.hid hS'
        clear hS'
        have g1 : (k : Int) < (l.length : Int) := by omega
        have g2 : (S : Int) ≤ 2147483647 := by omega
        have e5 : S' = S + 1 + L := by omega
        clear hsucc
        go_wp2
        go_roundw
        case rel => exact ⟨k + 1, by omega, by go_num, by rw [HS'.out]; go_num, by rw [HS'.out]; omega, trivial⟩
        case measure => simp [intOf]; omega
      · have hle := costE_le l k
        have hb : beyE l = true := by unfold beyE; simp; omega
        generalize costE (l.take k) = S at *
        have g1 : (k : Int) < (l.length : Int) := by omega
        have g2 : ¬ (S : Int) ≤ 2147483647 := by omega
        have g3 : (2147483647 : Int) < (S : Int) := by omega
        have HB := Lib.hid hb
        clear hle hb
        go_wp2
        go_ret
        exact ⟨by rw [HB.out]; rfl, rfl⟩
    · have ht : l.take k = l := List.take_of_length_le (by omega)
      have g1 : ¬ (k : Int) < (l.length : Int) := by omega
      have HB := Lib.hid (show beyE l = decide (2147483647 < (costE (l.take k) : Int)) by rw [ht]; unfold beyE; simp; omega)
      clear ht
      generalize costE (l.take k) = S at *
      go_wp2
      go_ret
      exact ⟨by rw [HB.out]; rfl, rfl⟩

/-- St.add, with what it leaves alone: what is newer than the hold. -/
theorem St.addF {a0 a1 : Addr} {w W0 W1 : World} {h : Nat} {s : HS} (hs : St a0 a1 w h s W0) (ho : Only Nil W0 W1) (v : Value) (bs : List UInt8) (hb : RB W1 v bs) (hd : 0 < bs.length → ∀ k, blkOf v = some k → W0.heap.size ≤ k ∨ k < w.heap.size) :
    Calls Tryd.prog 17 #[.pointer (some ⟨h, 0, none⟩), v] W1 fun e w' => e = .returned (.int .i64 (s.add bs : Int)) ∧ St a0 a1 w h (s.added bs) w' ∧ Only (fun k => w.heap.size ≤ k ∧ k < W0.heap.size) W1 w' := by
  obtain ⟨⟨F, hF⟩, he, h1⟩ := hs
  refine (Add_any (hF.only ho fun _ _ => id) (he.only ho fun _ e => e.elim) v bs hb fun h0 k hk hf => ?_).mono fun e w' ⟨e1, d⟩ => ⟨e1, St.did (hF.only ho fun _ _ => id) (he.only ho fun _ e => e.elim) (h1.then ho) d, d.only.mono fun k _ hk => hF.own k hk⟩
  have := hF.own k hf
  rcases hd h0 k hk with e | e <;> omega
/-- '[]byte(s)'. -/
theorem conv_bytes (bs : List UInt8) (w : World) : ∃ c w', (convert 9 26 (.string (str bs))).run Tryd.prog w = .ok (.slice (some ⟨w.heap.size, 0, none⟩) bs.length c) w' ∧ RB w' (.slice (some ⟨w.heap.size, 0, none⟩) bs.length c) bs ∧ Only Nil w w' ∧ w'.heap.size = w.heap.size + 1 := by
  have h := Lib.run_convert_string_bytes (P := Tryd.prog) w 9 26 5 (str bs) Tryd.underlying9 Tryd.underlying26 Tryd.underlying5
  have hg := grownCap_ge w (str bs).size 0 5
  rw [str_size] at h hg
  refine ⟨_, _, h, ⟨_, _, rfl, hg, fun _ => ⟨_, 0, rfl, fun j hj => ?_⟩⟩, ⟨rfl, rfl, rfl, ?_, fun k hk _ => Lib.bytesWorld_at_old w _ _ k hk⟩, Lib.bytesWorld_size w _ _⟩
  · rw [Nat.zero_add, Lib.bytesWorld_cell w _ _ j (by rw [str_size]; exact hj)]
    simp [str, by8]
  · rw [Lib.bytesWorld_size]
    omega
end Go.Proofs.YthkongkbefpilaaDoor
