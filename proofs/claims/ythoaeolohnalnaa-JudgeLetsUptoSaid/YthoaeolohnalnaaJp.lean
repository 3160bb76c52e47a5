/-
  The tale of a trace ('told'): what it is; what it has where no event is at fault.
-/
import Derived.Test.YthoaeolohnalnaaJn
namespace Go.Proofs.Ythoaeolohnalnaa
open Go.RowKit

structure Tl where
  fails : Int
  done : Int
  up : Int
  behind : Bool
  wrong : Bool
  held : Bool
  ip : Int
  till : Int
def Tl.cells (t : Tl) : List Value := [.int .i64 t.fails, .int .i64 t.done, .int .i64 t.up, .bool t.behind, .bool t.wrong]
def tl0 : Tl := ⟨0, 0, 0, false, false, false, 0, 0⟩
def wrongP (t : Tl) (e : Ev) : Bool := addrOk e.data && (!decide (addrP e.data = 0) && (!t.held || (!decide (addrP e.data = t.ip) || (!decide (t.till = -1) && decide (t.till ≤ e.time)))))
def tellP (t : Tl) (e : Ev) : Tl :=
  if e.kind = 2 then { t with held := true, ip := e.ip, till := e.till }
  else if e.kind = 3 then { t with held := false }
  else if e.kind = 4 then { t with behind := t.behind || decide (0 < t.done + t.up) }
  else if e.kind = 5 then { t with behind := t.behind || decide (0 < t.done + t.up), fails := t.fails + 1 }
  else if e.kind = 6 then { t with done := t.done + 1 }
  else if e.kind = 7 then { t with up := t.up + 1 }
  else if e.kind = 1 then { t with wrong := t.wrong || wrongP t e }
  else t
def toP (l : List Ev) : Nat → Tl
  | 0 => tl0
  | k + 1 => tellP (toP l k) (l.getD k ev0)
theorem to_bounds (l : List Ev) : ∀ k, 0 ≤ (toP l k).fails ∧ (toP l k).fails ≤ (k : Nat) ∧ 0 ≤ (toP l k).done ∧ (toP l k).done ≤ (k : Nat) ∧ 0 ≤ (toP l k).up ∧ (toP l k).up ≤ (k : Nat)
  | 0 => ⟨Int.le_refl _, Int.le_refl _, Int.le_refl _, Int.le_refl _, Int.le_refl _, Int.le_refl _⟩
  | k + 1 => by
    have ih := to_bounds l k
    show 0 ≤ (tellP (toP l k) (l.getD k ev0)).fails ∧ (tellP (toP l k) (l.getD k ev0)).fails ≤ ((k + 1 : Nat) : Int) ∧ 0 ≤ (tellP (toP l k) (l.getD k ev0)).done ∧ (tellP (toP l k) (l.getD k ev0)).done ≤ ((k + 1 : Nat) : Int) ∧ 0 ≤ (tellP (toP l k) (l.getD k ev0)).up ∧ (tellP (toP l k) (l.getD k ev0)).up ≤ ((k + 1 : Nat) : Int)
    unfold tellP
    repeat' split
    all_goals
      first | omega | (simp only; omega)

structure Link (c : Cfg) (s : Lk) (t : Tl) : Prop where
  held : t.held = s.held
  ip : t.ip = s.ip
  till : t.till = s.till
  fails : t.fails = s.fails
  ends : t.done + t.up = if s.over then 1 else 0
  behind : t.behind = false
  wrong : t.wrong = false
  under : s.over = true → s.under = false
  wait : s.awaited = 7 → s.over = false ∧ s.under = false
  most : 1 ≤ c.att → s.fails ≤ c.att ∧ (s.fails = c.att → s.awaited = 7 ∨ s.over = true)
theorem link0 (c : Cfg) : Link c lk0 tl0 := ⟨rfl, rfl, rfl, rfl, rfl, rfl, rfl, fun h => Bool.noConfusion h, fun h => absurd h (by decide), fun h => ⟨by show (0 : Int) ≤ c.att; omega, fun e => by have : (0 : Int) = c.att := e; omega⟩⟩
theorem link_step {c : Cfg} {s : Lk} {t : Tl} {e : Ev} {f : Bool} (h : Link c s t) (h0 : (askP c s e f).1 = 0) : Link c (askP c s e f).2 (tellP t e) := by
  unfold askP at h0 ⊢
  split at h0
  · simp at h0
  rename_i hf
  rw [if_neg hf]
  split at h0
  · simp at h0
  rename_i hn
  rw [if_neg hn]
  split at h0
  · simp at h0
  rename_i hr
  rw [if_neg hr]
  split at h0
  · simp at h0
  rename_i hl
  rw [if_neg hl]
  obtain ⟨hk1, hk7, _, _⟩ := formed_bounds (e := e) (by simpa using hf)
  clear hf hn
  obtain ⟨i1, i2, i3, i4, i5, i6, i7, i8, i9, i10⟩ := h
  obtain ⟨now, held, ip, till, under, over, fails, ready, awaited⟩ := s
  obtain ⟨tf, td, tu, tb, tw, th, ti, tt⟩ := t
  obtain ⟨kind, time, eip, etill, why, len, a, cap, data⟩ := e
  simp only at i1 i2 i3 i4 i5 i6 i7 i8 i9 i10 hk1 hk7
  subst i1 i2 i3 i4 i6 i7
  have hk : kind = 1 ∨ kind = 2 ∨ kind = 3 ∨ kind = 4 ∨ kind = 5 ∨ kind = 6 ∨ kind = 7 := by omega
  rcases hk with rfl | rfl | rfl | rfl | rfl | rfl | rfl
  · simp only [ruleP, sentP, tellP, wrongP, rightP, lapsed, sentWrong] at h0 hr hl ⊢
    constructor <;> grind
  · simp only [ruleP, adoptP, tellP, rightP, lapsed] at h0 hr hl ⊢
    constructor <;> grind
  · simp only [ruleP, dropP, tellP, rightP, lapsed] at h0 hr hl ⊢
    constructor <;> grind
  · simp only [ruleP, fetchP, fetchBad, mayP, tellP, rightP, lapsed] at h0 hr hl ⊢
    constructor <;> grind
  · simp only [ruleP, failP, failBad, mayP, tellP, rightP, lapsed] at h0 hr hl ⊢
    constructor <;> grind
  · simp only [ruleP, handoffP, handoffBad, tellP, rightP, lapsed] at h0 hr hl ⊢
    constructor <;> grind
  · simp only [ruleP, giveUpP, tellP, rightP, lapsed] at h0 hr hl ⊢
    constructor <;> grind
end Go.Proofs.Ythoaeolohnalnaa
