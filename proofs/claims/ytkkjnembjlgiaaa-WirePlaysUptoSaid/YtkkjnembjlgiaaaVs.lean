/-
  WirePlays: a script that comes in, its bound (beyond); any call of it (step_any).
-/
import Derived.Test.YtkkjnembjlgiaaaVr
namespace Go.Proofs.Ytkkjnembjlgiaaa
set_option maxRecDepth 100000
open Go.RowKit

structure OpW where
  kind : Int
  now : Int
  a : Option Addr
  cap : Nat
  bs : List UInt8
  fa : Option Addr
  fcap : Nat
  fs : List Ft
def OpW.d (e : OpW) : Value := .slice e.a e.bs.length e.cap
def OpW.f (e : OpW) : Value := .slice e.fa e.fs.length e.fcap
def OpW.cells (e : OpW) : List Value := [.int .i64 e.kind, .int .i64 e.now, .slice e.a e.bs.length e.cap, .slice e.fa e.fs.length e.fcap]
structure OpW.Ok (W : World) (e : OpW) : Prop where
  reads : RB W e.d e.bs
  fates : RF W e.f e.fs
def opw0 : OpW := ⟨0, 0, none, 0, [], none, 0, []⟩
/-- How long, how great. -/
structure OpW.Fit (e : OpW) : Prop where
  bs : e.bs.length ≤ 1048576
  fs : e.fs.length ≤ 1048576
  now : -9223372036854775808 ≤ e.now ∧ e.now ≤ 9223372036854775807
def OpsW (w : World) (v : Value) (l : List OpW) : Prop :=
  ∃ A c, v = .slice A l.length c ∧ l.length ≤ c ∧ (0 < l.length → ∃ g o, A = some ⟨g, o, none⟩ ∧ ∀ j, j < l.length → (∀ i, i < 4 → w.cell? ⟨g, o + j * 4 + i, none⟩ = (l.getD j opw0).cells[i]?) ∧ (l.getD j opw0).Ok w)
theorem OpsW.at' {w : World} {A : Option Addr} {n c : Nat} {l : List OpW} (h : OpsW w (.slice A n c) l) (k : Nat) (hk : k < l.length) : ∃ g o, A = some ⟨g, o, none⟩ ∧ w.cell? ⟨g, o + k * 4, none⟩ = some (.int .i64 (l.getD k opw0).kind) ∧ w.cell? ⟨g, o + k * 4 + 1, none⟩ = some (.int .i64 (l.getD k opw0).now) ∧ w.cell? ⟨g, o + k * 4 + 2, none⟩ = some (l.getD k opw0).d ∧ w.cell? ⟨g, o + k * 4 + 3, none⟩ = some (l.getD k opw0).f ∧ (l.getD k opw0).Ok w := by
  obtain ⟨A', c', e, _, hr⟩ := h
  injection e with e1 e2 e3
  subst e1 e2 e3
  obtain ⟨g, o, rfl, hat⟩ := hr (by omega)
  obtain ⟨h1, h2⟩ := hat k hk
  exact ⟨g, o, rfl, h1 0 (by omega), h1 1 (by omega), h1 2 (by omega), h1 3 (by omega), h2⟩
theorem OpsW.only {w w' : World} {v : Value} {l : List OpW} (h : OpsW w v l) (ho : Only Nil w w') : OpsW w' v l := by
  obtain ⟨A, c, e, hc, hr⟩ := h
  refine ⟨A, c, e, hc, fun h0 => ?_⟩
  obtain ⟨g, o, rfl, hat⟩ := hr h0
  refine ⟨g, o, rfl, fun j hj => ?_⟩
  obtain ⟨h1, h2⟩ := hat j hj
  refine ⟨fun i hi => ?_, ⟨h2.reads.only ho fun _ _ => id, h2.fates.only ho fun _ _ _ => id⟩⟩
  have h3 := h1 i hi
  have : ∃ u, (l.getD j opw0).cells[i]? = some u := ⟨_, List.getElem?_eq_getElem (show i < (l.getD j opw0).cells.length from hi)⟩
  obtain ⟨u, hu⟩ := this
  rw [hu] at h3 ⊢
  exact ho.cell h3 id
def costW (l : List OpW) : Nat := (l.map fun e => 1 + e.bs.length + e.fs.length).sum
def beyW (l : List OpW) : Bool := decide (2147483647 < costW l)
theorem costW_succ (l : List OpW) (k : Nat) (h : k < l.length) : costW (l.take (k + 1)) = costW (l.take k) + (1 + (l.getD k opw0).bs.length + (l.getD k opw0).fs.length) := by
  unfold costW
  rw [List.take_add_one, List.map_append, List.sum_append]
  simp [List.getD, h]
theorem costW_le (l : List OpW) (k : Nat) : costW (l.take k) ≤ costW l := by
  have := congrArg costW (List.take_append_drop k l)
  unfold costW at *
  rw [List.map_append, List.sum_append] at this
  omega
set_option maxHeartbeats 1600000 in
theorem beyond_any (v : Value) (l : List OpW) (w : World) (hv : OpsW w v l) (hd : ∀ j, j < l.length → (l.getD j opw0).Fit) (hn : l.length ≤ 1000000000000000) :
    Calls Try.prog 7 #[v] w fun e w' => e = .returned (.bool (beyW l)) ∧ Only Nil w w' := by
  obtain ⟨A, c, rfl, hc, hrow⟩ := hv
  have HR := Lib.hid hrow
  have HD := Lib.hid hd
  clear hrow hd
  go_enter Try.func7, Try.ntmps7
  go_wp2
  go_loopw [3, 4] (fun a i wr => ∃ k : Nat, k ≤ l.length ∧ i = .int .i64 k ∧ a = .int .i64 (costW (l.take k)) ∧ costW (l.take k) ≤ 200000000000000 ∧ Only Nil w wr) (fun _ i _ => l.length - (intOf i).toNat)
  case atStart => exact ⟨0, Nat.zero_le _, rfl, rfl, by simp [costW], Only.refl _ _⟩
  case round =>
    obtain ⟨k, hk, rfl, rfl, hcb, ho⟩ := hrel
    have HO := Lib.hid ho
    by_cases hlt : k < l.length
    · by_cases hbd : costW (l.take k) ≤ 2147483647
      · obtain ⟨g, o, rfl, hcell⟩ := HR.out (by omega)
        have c6 : wr.cell? ⟨g, o + k * 4 + 2, none⟩ = some (.slice (l.getD k opw0).a (l.getD k opw0).bs.length (l.getD k opw0).cap) := ho.cell ((hcell k hlt).1 2 (by omega)) id
        have c7 : wr.cell? ⟨g, o + k * 4 + 3, none⟩ = some (.slice (l.getD k opw0).fa (l.getD k opw0).fs.length (l.getD k opw0).fcap) := ho.cell ((hcell k hlt).1 3 (by omega)) id
        have hsucc := costW_succ l k hlt
        have hdl := (HD.out k hlt).bs
        have hdf := (HD.out k hlt).fs
        generalize (l.getD k opw0).bs.length = L at *
        generalize (l.getD k opw0).a = a at *
        generalize (l.getD k opw0).cap = cp at *
        generalize (l.getD k opw0).fs.length = M at *
        generalize (l.getD k opw0).fa = fa at *
        generalize (l.getD k opw0).fcap = fcp at *
        clear HR hcell ho
        generalize costW (l.take k) = S at *
        generalize hS' : costW (l.take (k + 1)) = S' at *
        have HS' := Lib.hid hS'
        clear hS'
        have g1 : (k : Int) < (l.length : Int) := by omega
        have g2 : (S : Int) ≤ 2147483647 := by omega
        have e5 : S' = S + 1 + L + M := by omega
        clear hsucc
        go_upto_region 5 with fail
        go_quiet (fail)
        go_wp2
        go_roundw
        case rel => exact ⟨k + 1, by omega, by go_num, by rw [HS'.out]; go_num, by rw [HS'.out]; omega, HO.out.drewN nq⟩
        case measure => simp [intOf]; omega
      · have hle := costW_le l k
        have hb : beyW l = true := by unfold beyW; simp; omega
        generalize costW (l.take k) = S at *
        have g1 : (k : Int) < (l.length : Int) := by omega
        have g2 : ¬ (S : Int) ≤ 2147483647 := by omega
        have g3 : (2147483647 : Int) < (S : Int) := by omega
        have HB := Lib.hid hb
        clear hle hb ho
        go_wp2
        go_ret
        exact ⟨by rw [HB.out]; rfl, HO.out⟩
    · have ht : l.take k = l := List.take_of_length_le (by omega)
      have g1 : ¬ (k : Int) < (l.length : Int) := by omega
      have HB := Lib.hid (show beyW l = decide (2147483647 < (costW (l.take k) : Int)) by rw [ht]; unfold beyW; simp; omega)
      clear ht ho
      generalize costW (l.take k) = S at *
      go_wp2
      go_ret
      exact ⟨by rw [HB.out]; rfl, HO.out⟩
section
variable {B : Nat} {W W' : World} {c : Nat → Nat} {i j w x kb bk n : Nat} {s r : WS} {ks : List Ke}
theorem step_any (H : Half B W c i j w x s r n) (K : Kept B W c kb bk ks) (hk : KsOk ks) (hij : IJ i j) (hn : n ≤ 3000000) (hks : ks.length ≤ 100000000000) (o : OpW) (hf : o.Fit) (ho : o.Ok W) (hb : 0 < o.bs.length → ∀ k, blkOf o.d = some k → k < B) (hb2 : 0 < o.fs.length → ∀ k, blkOf o.f = some k → k < B) :
    Calls Try.prog 10 #[.pointer (some ⟨kb, 0, none⟩), .pointer (some ⟨w, 0, none⟩), .pointer (some ⟨x, 0, none⟩), .agg #[.int .i64 o.kind, .int .i64 o.now, .slice o.a o.bs.length o.cap, .slice o.fa o.fs.length o.fcap]] W fun e W' => e = .returned (.bool true) ∧ After B W c i j w x kb bk n ks W' := by
  obtain ⟨kd, t, a, cap, bs, fa, fcap, fs⟩ := o
  obtain ⟨h1, h2, h3⟩ := hf
  obtain ⟨h4, h5⟩ := ho
  dsimp only at h1 h2 h3 ⊢
  have h1' : bs.length ≤ 1048576 := h1
  by_cases k1 : kd = 1
  · subst k1
    exact step_put H K hk hij (by omega) t h3 a cap bs _ h4 (by omega) hb
  by_cases k2 : kd = 2
  · subst k2
    exact step_due H K hk hij hks t h3 _ _
  by_cases k3 : kd = 3
  · subst k3
    exact step_fates H K hk hij hn t _ fa fcap fs h5 h2 hb2
  by_cases k4 : kd = 4
  · subst k4
    exact step_next H K hk _ _ _
  by_cases k5 : kd = 5
  · subst k5
    exact step_len H K hk _ _ _
  exact step_other H K hk _ _ _ kd k1 k2 k3 k4 k5
end
end Go.Proofs.Ytkkjnembjlgiaaa
