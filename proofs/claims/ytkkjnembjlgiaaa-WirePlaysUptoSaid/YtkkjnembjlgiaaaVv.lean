/-
  WirePlays answers true for every script of calls of two wires: the given row proved, for arguments of at most so great a bulk.
  The bound of the statement holds: what it reads is of bulk at most 1048576.
-/
import Derived.Test.YtkkjnembjlgiaaaRow2
import Derived.Test.YtkkjnembjlgiaaaVu
namespace Go.Proofs.Ytkkjnembjlgiaaa
set_option maxRecDepth 100000
open Go.ChangeShapes Go.WideShapes Go.ChangeAt Go.RowKit Go.Deep

section
variable {H : Type}
theorem bulk_pos (d : DataW H) : 1 ≤ Rows.uptoBulk d := by
  cases d with
  | lit l => cases l <;> simp [Rows.uptoBulk]
  | nil => simp [Rows.uptoBulk]
  | ptr d => simp [Rows.uptoBulk]
  | slice elems spare => simp [Rows.uptoBulk]
  | agg parts => simp [Rows.uptoBulk]
  | iface t d => simp [Rows.uptoBulk]
  | map entries => simp [Rows.uptoBulk]
  | held h => simp [Rows.uptoBulk]
theorem length_bulk (l : List (DataW H)) : l.length ≤ Rows.uptoBulkAll l := by
  induction l with
  | nil => simp [Rows.uptoBulkAll]
  | cons x r ih => have := bulk_pos x; simp only [Rows.uptoBulkAll, List.length_cons]; omega
theorem mem_bulk {d : DataW H} {l : List (DataW H)} (h : d ∈ l) : Rows.uptoBulk d ≤ Rows.uptoBulkAll l := by
  induction l with
  | nil => cases h
  | cons x r ih =>
    simp only [Rows.uptoBulkAll]
    rcases List.mem_cons.1 h with rfl | h
    · omega
    · have := ih h; omega
theorem dlen_bulk (d : DataW H) : dlen d ≤ Rows.uptoBulk d := by
  cases d with
  | slice elems spare => have := length_bulk elems; simp only [Rows.uptoBulk, dlen]; omega
  | _ => simp [dlen]
theorem bulk_bound {l : List (DataW H)} (hk : Rows.uptoSmall H l = true) : Rows.uptoBulkAll l ≤ 1048576 := of_decide_eq_true hk
theorem part_bulk {d : DataW H} {l : List (DataW H)} (h : d ∈ l) : Rows.uptoBulk d ≤ Rows.uptoBulk (.agg l) := by
  have := mem_bulk h
  simp only [Rows.uptoBulk]
  omega
theorem elem_bulk {d : DataW H} {l sp : List (DataW H)} (h : d ∈ l) : Rows.uptoBulk d ≤ Rows.uptoBulk (.slice l sp) := by
  have := mem_bulk h
  simp only [Rows.uptoBulk]
  omega
end
section
variable {H : Type} {enc : TypeId × Value → H} {w : World} {base : Nat} {spare : Nat → Bool} {held : Bool}
theorem ft_parts : ∃ f0 f1 f2 : Field, Try.prog.underlying 46 = some (.struct #[f0, f1, f2]) ∧ (f0.type = 4 ∧ f1.type = 3 ∧ f2.type = 3) ∧
    oneCellFields Try.prog #[f0, f1, f2] = true :=
  ⟨_, _, _, Try.underlying46, ⟨rfl, rfl, rfl⟩, by kernel_rfl⟩
theorem ft_of_trod {fuel : Nat} {cs : List Value} {x : DataW H × List MemPlace} (h : DataW.trod enc Try.prog w base spare held fuel 46 cs = some x) (hl : cs.length = 3) :
    ∃ e : Ft, cs = e.cells := by
  obtain ⟨f0, f1, f2, hs, ⟨t0, t1, t2⟩, hone⟩ := ft_parts
  obtain ⟨xs, n, _, hx, _, hlen, hg⟩ := DataW.trod_struct hs h
  obtain ⟨o0, k0⟩ := hone_of hone 0 f0 rfl
  obtain ⟨o1, k1⟩ := hone_of hone 1 f1 rfl
  obtain ⟨o2, k2⟩ := hone_of hone 2 f2 rfl
  match cs, hl, xs, hlen with
  | [c0, c1, c2], _, [y0, y1, y2], _ =>
    have g0 := hg 0 f0 rfl
    have g1 := hg 1 f1 rfl
    have g2 := hg 2 f2 rfl
    rw [o0, k0, t0] at g0
    rw [o1, k1, t1] at g1
    rw [o2, k2, t2] at g2
    obtain ⟨a0, e0, _⟩ := DataW.trod_bool Try.underlying4 g0
    obtain ⟨a1, e1, _, _⟩ := DataW.trod_int Try.underlying3 g1
    obtain ⟨a2, e2, _, _⟩ := DataW.trod_int Try.underlying3 g2
    obtain rfl : c0 = .bool a0 := by simpa using e0
    obtain rfl : c1 = .int .i64 a1 := by simpa using e1
    obtain rfl : c2 = .int .i64 a2 := by simpa using e2
    exact ⟨⟨a0, a1, a2⟩, rfl⟩
theorem fts_of_trod {fuel : Nat} {v : Value} {x : DataW H × List MemPlace} (h : DataW.trod enc Try.prog w base spare held fuel 40 [v] = some x) :
    ∃ l, RF w v l ∧ l.length ≤ dlen x.1 := by
  rcases open_slice Try.underlying40 h with ⟨hcs, _⟩ | ⟨a, len, cap, m, n, D, Pl, hcs, _, hl, _, hmm, rfl, hat⟩
  · obtain rfl : v = .slice none 0 0 := by simpa using hcs
    exact ⟨[], ⟨none, 0, rfl, Nat.le_refl _, fun h => absurd h (by simp)⟩, Nat.zero_le _⟩
  · obtain rfl : v = .slice (some a) len cap := by simpa using hcs
    have hlm : len ≤ m := by rw [hmm]; split <;> omega
    have hC : Try.prog.cellsOf 46 = 3 := by kernel_rfl
    have hin : Inhabited Ft := ⟨ft0⟩
    obtain ⟨f, hf⟩ := choose_lt (α := Ft) (n := len) (p := fun i e => ∀ j, j < 3 → w.cell? (a.add (i * 3 + j)) = e.cells[j]?) (fun i hi => by
      obtain ⟨cs', hc, ht⟩ := hat i (by omega)
      rw [hC] at hc
      obtain ⟨_, hcl, hcell⟩ := World.cells?_some hc
      obtain ⟨e, rfl⟩ := ft_of_trod ht hcl
      refine ⟨e, fun j hj => ?_⟩
      have := hcell j hj
      rw [add_add] at this
      exact this)
    have hfl : ((List.range len).map f).length = len := by simp
    have hget : ∀ j, j < len → ((List.range len).map f).getD j ft0 = f j := fun j hj => by simp [List.getD, hj]
    refine ⟨(List.range len).map f, ⟨some a, cap, by rw [hfl], by rw [hfl]; exact hl, fun h0 => ?_⟩, by rw [hfl]; simp [dlen]⟩
    rw [hfl] at h0
    obtain ⟨b, off, spot⟩ := a
    have hspot : spot = none := by
      have := World.cell?_spot ((hf 0 h0 0 (by omega)).trans (List.getElem?_eq_getElem (show 0 < (f 0).cells.length from by show 0 < 3; decide)))
      simpa [Addr.add] using this
    subst hspot
    refine ⟨b, off, rfl, fun j u hu => ?_⟩
    have hj : j < len * 3 := by
      have := (List.getElem?_eq_some_iff.1 hu).1
      rwa [flatF_len, hfl] at this
    have e1 : j = j / 3 * 3 + j % 3 := by omega
    have h2 := hf (j / 3) (by omega) (j % 3) (by omega)
    rw [Go.WideShapes.add_plain, ← e1] at h2
    rw [h2, ← hu]
    have h3 := flatF_get ((List.range len).map f) (j / 3) (j % 3) (by rw [hfl]; omega) (by omega)
    rw [← e1, hget _ (by omega)] at h3
    exact h3.symm
theorem op_parts : ∃ f0 f1 f2 f3 : Field, Try.prog.underlying 42 = some (.struct #[f0, f1, f2, f3]) ∧ (f0.type = 3 ∧ f1.type = 3 ∧ f2.type = 39 ∧ f3.type = 40) ∧
    oneCellFields Try.prog #[f0, f1, f2, f3] = true :=
  ⟨_, _, _, _, Try.underlying42, ⟨rfl, rfl, rfl, rfl⟩, by kernel_rfl⟩
theorem op_of_trod {fuel : Nat} {cs : List Value} {x : DataW H × List MemPlace} (h : DataW.trod enc Try.prog w base spare held fuel 42 cs = some x) (hl : cs.length = 4) (hk : Rows.uptoBulk x.1 ≤ 1048576) :
    ∃ e : OpW, cs = e.cells ∧ e.Ok w ∧ e.Fit := by
  obtain ⟨f0, f1, f2, f3, hs, ⟨t0, t1, t2, t3⟩, hone⟩ := op_parts
  obtain ⟨xs, n, _, hx, _, hlen, hg⟩ := DataW.trod_struct hs h
  obtain ⟨o0, k0⟩ := hone_of hone 0 f0 rfl
  obtain ⟨o1, k1⟩ := hone_of hone 1 f1 rfl
  obtain ⟨o2, k2⟩ := hone_of hone 2 f2 rfl
  obtain ⟨o3, k3⟩ := hone_of hone 3 f3 rfl
  match cs, hl, xs, hlen with
  | [c0, c1, c2, c3], _, [y0, y1, y2, y3], _ =>
    have g0 := hg 0 f0 rfl
    have g1 := hg 1 f1 rfl
    have g2 := hg 2 f2 rfl
    have g3 := hg 3 f3 rfl
    rw [o0, k0, t0] at g0
    rw [o1, k1, t1] at g1
    rw [o2, k2, t2] at g2
    rw [o3, k3, t3] at g3
    obtain ⟨a0, e0, _, _⟩ := DataW.trod_int Try.underlying3 g0
    obtain ⟨a1, e1, _, w1⟩ := DataW.trod_int Try.underlying3 g1
    obtain rfl : c0 = .int .i64 a0 := by simpa using e0
    obtain rfl : c1 = .int .i64 a1 := by simpa using e1
    obtain ⟨bs, hb, hbl⟩ := rb_of_trod2 Try.underlying39 Try.underlying5 (by kernel_rfl) (show DataW.trod enc Try.prog w base spare held n 39 [c2] = some y2 from g2)
    obtain ⟨l, hf, hfl⟩ := fts_of_trod (show DataW.trod enc Try.prog w base spare held n 40 [c3] = some y3 from g3)
    obtain ⟨A, c, rfl, hc⟩ := hb.form
    obtain ⟨A3, c3', rfl, _, hr3⟩ := id hf
    have hd : x.1 = .agg [y0.1, y1.1, y2.1, y3.1] := by
      rw [hx]
      rfl
    rw [hd] at hk
    have b2 : Rows.uptoBulk y2.1 ≤ 1048576 := Nat.le_trans (part_bulk (by simp)) hk
    have b3 : Rows.uptoBulk y3.1 ≤ 1048576 := Nat.le_trans (part_bulk (by simp)) hk
    simp only [Lit.wf, Bool.and_eq_true, decide_eq_true_eq] at w1
    have hmn : IntKind.i64.min = -9223372036854775808 := by decide
    have hmx : IntKind.i64.max = 9223372036854775807 := by decide
    refine ⟨⟨a0, a1, A, c, bs, A3, c3', l⟩, rfl, ⟨hb, hf⟩, ⟨?_, Nat.le_trans hfl (Nat.le_trans (dlen_bulk _) b3), by show -9223372036854775808 ≤ a1 ∧ a1 ≤ 9223372036854775807; omega⟩⟩
    show bs.length ≤ 1048576
    rcases hbl with rfl | ⟨es, sp, hes, hel⟩
    · exact Nat.zero_le _
    · have := dlen_bulk y2.1
      rw [hes] at this b2
      simp only [dlen] at this
      omega
theorem ops_of_trod {fuel : Nat} {v : Value} {x : DataW H × List MemPlace} (h : DataW.trod enc Try.prog w base spare held fuel 23 [v] = some x) (hk : Rows.uptoBulk x.1 ≤ 1048576) :
    ∃ l, OpsW w v l ∧ (∀ j, j < l.length → (l.getD j opw0).Fit) ∧ l.length ≤ 1048576 := by
  rcases open_slice Try.underlying23 h with ⟨hcs, _⟩ | ⟨a, len, cap, m, n, D, Pl, hcs, _, hl, _, hmm, rfl, hat⟩
  · obtain rfl : v = .slice none 0 0 := by simpa using hcs
    exact ⟨[], ⟨none, 0, rfl, Nat.le_refl _, fun h => absurd h (by simp)⟩, fun j hj => absurd hj (by simp), Nat.zero_le _⟩
  · obtain rfl : v = .slice (some a) len cap := by simpa using hcs
    have hlm : len ≤ m := by rw [hmm]; split <;> omega
    have hC : Try.prog.cellsOf 42 = 4 := by kernel_rfl
    have hin : Inhabited OpW := ⟨opw0⟩
    obtain ⟨f, hf⟩ := choose_lt (α := OpW) (n := len) (p := fun i e => (∀ j, j < 4 → w.cell? (a.add (i * 4 + j)) = e.cells[j]?) ∧ e.Ok w ∧ e.Fit) (fun i hi => by
      obtain ⟨cs', hc, ht⟩ := hat i (by omega)
      rw [hC] at hc
      obtain ⟨_, hcl, hcell⟩ := World.cells?_some hc
      obtain ⟨e, rfl, hok, hfit⟩ := op_of_trod ht hcl (Nat.le_trans (elem_bulk (List.mem_map.2 ⟨i, List.mem_range.2 hi, rfl⟩)) hk)
      refine ⟨e, fun j hj => ?_, hok, hfit⟩
      have := hcell j hj
      rw [add_add] at this
      exact this)
    have hfl : ((List.range len).map f).length = len := by simp
    have hget : ∀ j, j < len → ((List.range len).map f).getD j opw0 = f j := fun j hj => by simp [List.getD, hj]
    refine ⟨(List.range len).map f, ⟨some a, cap, by rw [hfl], by rw [hfl]; exact hl, fun h0 => ?_⟩, fun j hj => ?_, ?_⟩
    · rw [hfl] at h0
      obtain ⟨b, off, spot⟩ := a
      have hspot : spot = none := by
        have := World.cell?_spot ((hf 0 h0).1 0 (by omega))
        simpa [Addr.add] using this
      subst hspot
      refine ⟨b, off, rfl, fun j hj => ?_⟩
      rw [hfl] at hj
      obtain ⟨h1, h2, _⟩ := hf j hj
      rw [hget j hj]
      refine ⟨fun i hi => ?_, h2⟩
      have := h1 i hi
      rw [Go.WideShapes.add_plain] at this
      rw [Nat.add_assoc]
      exact this
    · rw [hfl] at hj
      rw [hget j hj]
      exact (hf j hj).2.2
    · rw [hfl]
      have := Nat.le_trans (dlen_bulk _) hk
      simpa [dlen] using this
theorem open_opsW {r : Reach} {b0 : Nat} {v : Value} {d : DataW H} {ps : List MemPlace} (hval : Value.okWide Try.prog w r b0 23 v) (h : DataW.Trod enc Try.prog w base spare held 23 v d ps) (hk : Rows.uptoBulk d ≤ 1048576) :
    ∃ l, OpsW w v l ∧ (∀ j, j < l.length → (l.getD j opw0).Fit) ∧ l.length ≤ 1048576 := by
  obtain ⟨a0, len, cap, rfl⟩ := okWide_slice Try.underlying23 hval
  obtain ⟨fuel, hf⟩ := h
  exact ops_of_trod hf hk
end
set_option maxRecDepth 100000 in
theorem plays_lifted (os : Os) (started : os.Started) (H : Type) (enc : TypeId × Value → H) (F : Stop.Interp) :
    ReturnsInHanded {} Try.checked os 4 .any ((Rows.OpenSpec.upto Rows.wirePlaysSpec).pre6 enc Try.prog Try.f4 Rows.wirePlaysUptoRow.domain false) (((Rows.OpenSpec.upto Rows.wirePlaysSpec).at F).post enc Try.prog Try.f4 false true false false) := by
  refine returnsInHanded_of_cond (C := Try.checked) (s := Rows.OpenSpec.upto Rows.wirePlaysSpec) (k := Rows.uptoSmall) rfl Try.own started (by kernel_rfl) Try.func4
    (OpenSpec.witness (enc := enc) (C := Try.checked) (s := Rows.OpenSpec.upto Rows.wirePlaysSpec) (k := Rows.uptoSmall) rfl false ⟨#[], #[.slice none 0 0], []⟩ 8 (by kernel_rfl) (by kernel_rfl) (by kernel_rfl)
      (x := ([.nil], [], [])) (by kernel_rfl) rfl (by kernel_rfl)) ?_
  intro W base args ds gs before hval0 hW hcnd hk _
  have hval : ∀ (j : Nat) t v, Try.f4.params[j]? = some t → args[j]? = some v → Value.okWide Try.prog W .any base t v := hval0
  have hW' := hW
  obtain ⟨p, q, hA0, hV, rfl, hfz, hnd⟩ := hW
  have hA : DataW.TrodAll enc Try.prog W 0 (fun _ => true) true Try.f4.params.toList args.toList ds p := hA0
  rw [Try.params4] at hA hval
  have hA1 := hA
  obtain ⟨v0, vs1, d0, ds1, p0, ps1, hargs, rfl, rfl, h0, hA2⟩ := trodAll_cons hA
  obtain ⟨rfl, rfl, rfl⟩ := trodAll_nil hA2
  obtain rfl : args = #[v0] := Array.ext' (by simpa using hargs)
  obtain ⟨rfl, rfl⟩ := trodVars_none hV
  obtain ⟨l, hl, hd, hll⟩ := open_opsW (hval 0 23 v0 rfl rfl) h0 (Nat.le_trans (mem_bulk (by simp)) (bulk_bound hk))
  clear hA0 hval0
  have hlt := hW'.lt
  refine (plays_any v0 l W hl hd hll).mono fun e W' ⟨he, hw⟩ => ?_
  subst he
  exact ⟨_, rfl, _, _, _, [], _, [], hW', trodAll_mk1 (shut_bool Try.underlying4 true), trodAll_stays Try.laidOut (hw.below (Nat.le_refl _) fun _ h => h.elim) (by kernel_rfl) hA1 (fun x hx => hlt x (by simpa using hx)), rfl, kept_of_only hw _, fun h => by cases h⟩
theorem plays_holds : Rows.WirePlaysUptoSaid :=
  OpenClaim.holds_of_cond 4 Try.f4 rfl rfl rfl rfl rfl rfl rfl ⟨rfl, rfl, rfl, rfl, rfl⟩ rfl rfl rfl rfl rfl (by kernel_rfl) Try.func4 (by kernel_rfl)
    (of_decide_eq_true (by kernel_rfl)) (by unfold Func.isWrapper; rw [if_neg (by decide +kernel)]; exact ⟨rfl, rfl⟩)
    (fun os started H enc _ F => plays_lifted os started H enc F)
end Go.Proofs.Ytkkjnembjlgiaaa
