/-
  The bound on a trace ('beyond'); a beginning of a trace is judged as the trace is.
-/
import Derived.Test.YthoaeolohnalnaaJl
namespace Go.Proofs.Ythoaeolohnalnaa
open Go.RowKit

def costE (l : List Ev) : Nat := (l.map fun e => 1 + e.data.length).sum
def beyE (l : List Ev) : Bool := decide (2147483647 < costE l)
theorem costE_succ (l : List Ev) (k : Nat) (h : k < l.length) : costE (l.take (k + 1)) = costE (l.take k) + (1 + (l.getD k ev0).data.length) := by
  unfold costE
  rw [List.take_add_one, List.map_append, List.sum_append]
  simp [List.getD, h]
theorem costE_le (l : List Ev) (k : Nat) : costE (l.take k) ≤ costE l := by
  have := congrArg costE (List.take_append_drop k l)
  unfold costE at *
  rw [List.map_append, List.sum_append] at this
  omega
theorem costE_len (l : List Ev) : l.length ≤ costE l := by
  induction l with
  | nil => exact Nat.zero_le _
  | cons x r ih =>
    have e : costE (x :: r) = 1 + x.data.length + costE r := by simp [costE]
    rw [e, List.length_cons]
    omega
theorem beyE_false {l : List Ev} (h : beyE l = false) : l.length ≤ 2147483647 ∧ costE l ≤ 2147483647 := by
  unfold beyE at h
  have := costE_len l
  simp at h
  omega
set_option maxHeartbeats 1600000 in
theorem beyond_any (v : Value) (l : List Ev) (w : World) (hv : Evs w v l) (hd : ∀ j, j < l.length → (l.getD j ev0).data.length ≤ 140737488355328) (hn : l.length ≤ 1000000000000000) :
    Calls Try.prog 10 #[v] w fun e w' => e = .returned (.bool (beyE l)) ∧ w = w' := by
  obtain ⟨A, c, rfl, hc, hrow⟩ := hv
  have HR := Lib.hid hrow
  have HD := Lib.hid hd
  clear hrow hd
  go_enter Try.func10, Try.ntmps10
  go_wp2
  go_loopw [3, 4] (fun a i wr => ∃ k : Nat, k ≤ l.length ∧ i = .int .i64 k ∧ a = .int .i64 (costE (l.take k)) ∧ costE (l.take k) ≤ 200000000000000 ∧ wr = w) (fun _ i _ => l.length - (intOf i).toNat)
  case atStart => exact ⟨0, Nat.zero_le _, rfl, rfl, by simp [costE], rfl⟩
  case round =>
    obtain ⟨k, hk, rfl, rfl, hcb, rfl⟩ := hrel
    by_cases hlt : k < l.length
    · by_cases hbd : costE (l.take k) ≤ 2147483647
      · obtain ⟨g, o, rfl, hcell⟩ := HR.out (by omega)
        have c6 : wr.cell? ⟨g, o + k * 7 + 6, none⟩ = some (.slice (l.getD k ev0).a (l.getD k ev0).data.length (l.getD k ev0).cap) := (hcell k hlt).1 6 (by omega)
        have hsucc := costE_succ l k hlt
        have hdl := HD.out k hlt
        generalize (l.getD k ev0).data.length = L at *
        generalize (l.getD k ev0).a = a at *
        generalize (l.getD k ev0).cap = cp at *
        clear HR hcell
        generalize costE (l.take k) = S at *
        generalize hS' : costE (l.take (k + 1)) = S' at *
        have HS' := Lib.hid hS'
        clear hS'
        have g1 : (k : Int) < (l.length : Int) := by omega
        have g2 : (S : Int) ≤ 2147483647 := by omega
        have e5 : S' = S + 1 + L := by omega
        clear hsucc
        go_wp2
        go_roundw
        case rel => exact ⟨k + 1, by omega, by go_num, by rw [HS'.out]; go_num, by rw [HS'.out]; omega, trivial⟩
        case measure => simp [intOf]; omega
      · have hle := costE_le l k
        have hb : beyE l = true := by unfold beyE; simp; omega
        generalize costE (l.take k) = S at *
        have g1 : (k : Int) < (l.length : Int) := by omega
        have g2 : ¬ (S : Int) ≤ 2147483647 := by omega
        have g3 : (2147483647 : Int) < (S : Int) := by omega
        have HB := Lib.hid hb
        clear hle hb
        go_wp2
        go_ret
        exact ⟨by rw [HB.out]; rfl, rfl⟩
    · have ht : l.take k = l := List.take_of_length_le (by omega)
      have g1 : ¬ (k : Int) < (l.length : Int) := by omega
      have HB := Lib.hid (show beyE l = decide (2147483647 < (costE (l.take k) : Int)) by rw [ht]; unfold beyE; simp; omega)
      clear ht
      generalize costE (l.take k) = S at *
      go_wp2
      go_ret
      exact ⟨by rw [HB.out]; rfl, rfl⟩

/-! ## A beginning -/
theorem getD_take (l : List Ev) (n k : Nat) (h : k < n) : (l.take n).getD k ev0 = l.getD k ev0 := by simp [List.getD, List.getElem?_take_of_lt h]
theorem stP_take (c : Cfg) (l : List Ev) (n : Nat) : ∀ k, k ≤ n → stP c (l.take n) k = stP c l k
  | 0, _ => rfl
  | k + 1, h => by
    show (askP c (stP c (l.take n) k) ((l.take n).getD k ev0) (decide (k = 0))).2 = (askP c (stP c l k) (l.getD k ev0) (decide (k = 0))).2
    rw [stP_take c l n k (by omega), getD_take l n k (by omega)]
theorem ruP_take (c : Cfg) (l : List Ev) (n k : Nat) (h : k < n) : ruP c (l.take n) k = ruP c l k := by
  unfold ruP
  rw [stP_take c l n k (by omega), getD_take l n k h]
/-- What the judge says of a beginning. -/
theorem says_take {c : Cfg} {l : List Ev} {n : Nat} {a x y a' x' y' : Int} (hn : n ≤ l.length) (h : Says c l a x y) (h' : Says c (l.take n) a' x' y') :
    (0 ≤ a ∧ a < n → a' = a ∧ x' = x ∧ y' = y) ∧ (¬ (0 ≤ a ∧ a < n) → a' = -1 ∧ x' = 0 ∧ y' = 0) := by
  have hl : (l.take n).length = n := by rw [List.length_take]; omega
  rcases h' with ⟨h0, rfl, rfl, rfl⟩ | ⟨k', hk', hz', hne', rfl, rfl, rfl⟩
  · refine ⟨fun hb => ?_, fun _ => ⟨rfl, rfl, rfl⟩⟩
    rcases h with ⟨_, rfl, _, _⟩ | ⟨k, hk, hz, hne, rfl, _, _⟩
    · omega
    · exact absurd ((ruP_take c l n k (by omega)).symm.trans (h0 k (by omega))) hne
  · rw [hl] at hk'
    rw [ruP_take c l n k' hk'] at hne' ⊢
    rcases h with ⟨h0, rfl, _, _⟩ | ⟨k, hk, hz, hne, rfl, rfl, rfl⟩
    · exact absurd (h0 k' (by omega)) hne'
    · have hkk : k = k' := by
        rcases Nat.lt_trichotomy k k' with h1 | h1 | h1
        · exact absurd ((ruP_take c l n k (by omega)).symm.trans (hz' k h1)) hne
        · exact h1
        · exact absurd (hz k' h1) hne'
      subst hkk
      exact ⟨fun _ => ⟨rfl, rfl, rfl⟩, fun hb => absurd ⟨by omega, by omega⟩ hb⟩
end Go.Proofs.Ythoaeolohnalnaa
