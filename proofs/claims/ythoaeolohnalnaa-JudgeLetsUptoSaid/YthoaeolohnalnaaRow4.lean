/-
  A configuration that comes in as an argument: what it reads as.
-/
import Derived.Test.YthoaeolohnalnaaRow3
namespace Go.Proofs.Ythoaeolohnalnaa
open Go.ChangeShapes Go.WideShapes Go.ChangeAt Go.RowKit Go.Deep

section
variable {H : Type} {enc : TypeId × Value → H} {w : World} {base : Nat} {spare : Nat → Bool} {held : Bool}
theorem cfg_parts : ∃ f0 f1 f2 f3 f4 f5 f6 f7 f8 : Field, Try.prog.underlying 26 = some (.struct #[f0, f1, f2, f3, f4, f5, f6, f7, f8]) ∧ (f0.type = 23 ∧ f1.type = 3 ∧ f2.type = 3 ∧ f3.type = 9 ∧ f4.type = 24 ∧ f5.type = 3 ∧ f6.type = 3 ∧ f7.type = 3 ∧ f8.type = 3) ∧
    (f0.offset = 0 ∧ f1.offset = 6 ∧ f2.offset = 7 ∧ f3.offset = 8 ∧ f4.offset = 9 ∧ f5.offset = 41 ∧ f6.offset = 42 ∧ f7.offset = 43 ∧ f8.offset = 44) :=
  ⟨_, _, _, _, _, _, _, _, _, Try.underlying26, ⟨rfl, rfl, rfl, rfl, rfl, rfl, rfl, rfl, rfl⟩, rfl, rfl, rfl, rfl, rfl, rfl, rfl, rfl, rfl⟩
theorem cfg_of_trod {fuel : Nat} {cs : List Value} {x : DataW H × List MemPlace} (h : DataW.trod enc Try.prog w base spare held fuel 26 cs = some x) (hl : cs.length = 45) :
    ∃ c : Cfg, cs = c.cells ∧ c.ok := by
  obtain ⟨f0, f1, f2, f3, f4, f5, f6, f7, f8, hs, ⟨t0, t1, t2, t3, t4, t5, t6, t7, t8⟩, o0, o1, o2, o3, o4, o5, o6, o7, o8⟩ := cfg_parts
  have ci : Try.prog.cellsOf 3 = 1 := by kernel_rfl
  have cst : Try.prog.cellsOf 9 = 1 := by kernel_rfl
  have cm : Try.prog.cellsOf 23 = 6 := by kernel_rfl
  have cd : Try.prog.cellsOf 24 = 32 := by kernel_rfl
  obtain ⟨xs, n, _, hx, _, hlen, hg⟩ := DataW.trod_struct hs h
  match cs, hl, xs, hlen with
  | v0 :: v1 :: v2 :: v3 :: v4 :: v5 :: v6 :: v7 :: v8 :: v9 :: v10 :: v11 :: v12 :: v13 :: v14 :: v15 :: v16 :: v17 :: v18 :: v19 :: v20 :: v21 :: v22 :: v23 :: v24 :: v25 :: v26 :: v27 :: v28 :: v29 :: v30 :: v31 :: v32 :: v33 :: v34 :: v35 :: v36 :: v37 :: v38 :: v39 :: v40 :: v41 :: v42 :: v43 :: v44 :: [], _, [y0, y1, y2, y3, y4, y5, y6, y7, y8], _ =>
    have g0 := hg 0 f0 rfl
    rw [o0, t0, cm] at g0
    have g1 := hg 1 f1 rfl
    rw [o1, t1, ci] at g1
    have g2 := hg 2 f2 rfl
    rw [o2, t2, ci] at g2
    have g3 := hg 3 f3 rfl
    rw [o3, t3, cst] at g3
    have g4 := hg 4 f4 rfl
    rw [o4, t4, cd] at g4
    have g5 := hg 5 f5 rfl
    rw [o5, t5, ci] at g5
    have g6 := hg 6 f6 rfl
    rw [o6, t6, ci] at g6
    have g7 := hg 7 f7 rfl
    rw [o7, t7, ci] at g7
    have g8 := hg 8 f8 rfl
    rw [o8, t8, ci] at g8
    obtain ⟨a1, e1, _, _⟩ := DataW.trod_int Try.underlying3 (show DataW.trod enc Try.prog w base spare held n 3 [v6] = some y1 from g1)
    obtain ⟨a2, e2, _, _⟩ := DataW.trod_int Try.underlying3 (show DataW.trod enc Try.prog w base spare held n 3 [v7] = some y2 from g2)
    obtain ⟨a5, e5, _, _⟩ := DataW.trod_int Try.underlying3 (show DataW.trod enc Try.prog w base spare held n 3 [v41] = some y5 from g5)
    obtain ⟨a6, e6, _, _⟩ := DataW.trod_int Try.underlying3 (show DataW.trod enc Try.prog w base spare held n 3 [v42] = some y6 from g6)
    obtain ⟨a7, e7, _, _⟩ := DataW.trod_int Try.underlying3 (show DataW.trod enc Try.prog w base spare held n 3 [v43] = some y7 from g7)
    obtain ⟨a8, e8, _, _⟩ := DataW.trod_int Try.underlying3 (show DataW.trod enc Try.prog w base spare held n 3 [v44] = some y8 from g8)
    obtain rfl : v6 = .int .i64 a1 := by simpa using e1
    obtain rfl : v7 = .int .i64 a2 := by simpa using e2
    obtain rfl : v41 = .int .i64 a5 := by simpa using e5
    obtain rfl : v42 = .int .i64 a6 := by simpa using e6
    obtain rfl : v43 = .int .i64 a7 := by simpa using e7
    obtain rfl : v44 = .int .i64 a8 := by simpa using e8
    obtain ⟨sx, e3, _⟩ := DataW.trod_string Try.underlying9 (show DataW.trod enc Try.prog w base spare held n 9 [v8] = some y3 from g3)
    obtain rfl : v8 = .string sx := by simpa using e3
    obtain ⟨mac, hmac, hml⟩ := cells_of_trod (n := 6) (by kernel_rfl) Try.underlying5 (by kernel_rfl) rfl (show DataW.trod enc Try.prog w base spare held n 23 [v0, v1, v2, v3, v4, v5] = some y0 from g0)
    obtain ⟨dig, hdig, hdl⟩ := cells_of_trod (n := 32) (by kernel_rfl) Try.underlying5 (by kernel_rfl) rfl (show DataW.trod enc Try.prog w base spare held n 24 [v9, v10, v11, v12, v13, v14, v15, v16, v17, v18, v19, v20, v21, v22, v23, v24, v25, v26, v27, v28, v29, v30, v31, v32, v33, v34, v35, v36, v37, v38, v39, v40] = some y4 from g4)
    have hcells : ([v0, v1, v2, v3, v4, v5] ++ ((Value.int .i64 a1 :: .int .i64 a2 :: .string sx :: [v9, v10, v11, v12, v13, v14, v15, v16, v17, v18, v19, v20, v21, v22, v23, v24, v25, v26, v27, v28, v29, v30, v31, v32, v33, v34, v35, v36, v37, v38, v39, v40]) ++ [.int .i64 a5, .int .i64 a6, .int .i64 a7, .int .i64 a8])) = (⟨mac, .int .i64 a1 :: .int .i64 a2 :: .string sx :: BC dig, a5, .int .i64 a6, .int .i64 a7, a8⟩ : Cfg).cells := by rw [hmac, hdig]; rfl
    refine ⟨⟨mac, .int .i64 a1 :: .int .i64 a2 :: .string sx :: BC dig, a5, .int .i64 a6, .int .i64 a7, a8⟩, hcells, hml, by simp [BC_length, hdl], fun v hv => ?_⟩
    simp only [Cfg.cells, List.mem_append, List.mem_cons, List.not_mem_nil, or_false] at hv
    rcases hv with hv | (rfl | rfl | rfl | hv) | rfl | rfl | rfl | rfl
    · exact BC_one _ v hv
    · rfl
    · rfl
    · rfl
    · exact BC_one _ v hv
    · rfl
    · rfl
    · rfl
    · rfl
theorem open_cfg {r : Reach} {b0 : Nat} {v : Value} {d : DataW H} {ps : List MemPlace} (hval : Value.okWide Try.prog w r b0 26 v) (h : DataW.Trod enc Try.prog w base spare held 26 v d ps) :
    ∃ c : Cfg, v = .agg c.cells.toArray ∧ c.ok := by
  obtain ⟨cs, rfl, hsz⟩ := okWide_struct Try.underlying26 hval
  have hC : Try.prog.cellsOf 26 = 45 := by kernel_rfl
  obtain ⟨l⟩ := cs
  obtain ⟨fuel, hf⟩ := h
  obtain ⟨c, hc, hok⟩ := cfg_of_trod hf (hsz.trans hC)
  have hc' : l = c.cells := hc
  subst hc'
  exact ⟨c, rfl, hok⟩
end
end Go.Proofs.Ythoaeolohnalnaa
