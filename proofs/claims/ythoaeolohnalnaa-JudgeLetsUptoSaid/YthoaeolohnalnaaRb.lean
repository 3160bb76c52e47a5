/-
  The reference's words of a trace: Held, Rest, Awaited.
-/
import Derived.Test.YthoaeolohnalnaaRa
namespace Go.Proofs.Ythoaeolohnalnaa
open Go.RowKit

theorem results_cell_slot {P : Program} {fn : Func} {p q : Tmp} {ty : TypeId} (h : fn.results = #[.cell p ty, .tmp q]) (tmps : Array Value) (w : World) (g : Nat) (t : TypeId) (cs : Array Value) (fr : Nat × Nat) (d : TypeDesc)
    (hp : tmps.getD p undef = .pointer (some ⟨g, 0, none⟩)) (hg : w.heap[g]? = some (.cells cs t fr))
    (hu : P.underlying ty = some d) (hd : (match d with | .struct _ | .array _ _ => true | _ => false) = true) (hi : (P.info? ty).map (·.size) = some cs.size) {u : Value} (hq : tmps.getD q undef = u) :
    (results fn tmps).run P w = .ok (.tuple #[.agg cs, u]) w := by
  have hp' : tmps[p]?.getD undef = .pointer (some ⟨g, 0, none⟩) := by simpa using hp
  have hq' : tmps[q]?.getD undef = u := by simpa using hq
  simp [results, h, hp', hq', asAddr, run_loadVar_row w g t ty cs fr d hg hu hd hi]
def heldV (o : Option Ev) : Value := match o with
  | none => ev0.v
  | some e => e.v
theorem ev_cells_one (e : Ev) : ∀ v ∈ e.cells, v.oneCell' = true := fun v hv => by
  simp only [Ev.cells, List.mem_cons, List.not_mem_nil, or_false] at hv
  rcases hv with rfl | rfl | rfl | rfl | rfl | rfl | rfl <;> rfl
set_option maxHeartbeats 1600000 in
theorem held_any (v : Value) (l : List Ev) (w : World) (hv : Evs w v l) (hn : l.length ≤ 1000000000000) :
    Calls Try.prog 46 #[v] w fun r w' => r = .returned (.tuple #[heldV (heldR l), .bool (heldR l).isSome]) ∧ Only Nil w w' := by
  obtain ⟨A, c, rfl, hc⟩ := hv.form
  have h23 := Lib.hid (show ∀ W, Only Nil w W → _ from fun W ho => last_any 2 3 _ l W (hv.nil ho) hn)
  have HV := Lib.hid (show ∀ W, Only Nil w W → Evs W (.slice A l.length c) l from fun W ho => hv.nil ho)
  have HU := Lib.hid (show heldR l = if lastR 2 3 l l.length < 0 ∨ (l.getD (lastR 2 3 l l.length).toNat ev0).kind = 3 then none else some (l.getD (lastR 2 3 l l.length).toNat ev0) from rfl)
  have hb := lastR_bounds 2 3 l l.length
  generalize lastR 2 3 l l.length = i at *
  clear hv
  go_enter Try.func46, Try.ntmps46
  go_upto_region 1 with fail
  obtain ⟨b, hbb⟩ : ∃ b, w.heap.size = b := ⟨_, rfl⟩
  refine wp_gen (fun W => Only Nil w W ∧ Blk W b 48 ev0.cells) ⟨(Only.refl _ _).alloc _, hbb ▸ Blk.new w _ _⟩ ?_
  have HW := Lib.hid (Nat.le_of_eq hbb)
  rw [hbb]
  clear hbb
  intro w1 h1
  have H1 := Lib.hid h1
  clear h1
  go_upto_region 2 with (go_at_call 48; refine (h23.out _ H1.out.1).mono ?_; rintro r w' ⟨rfl, rfl⟩)
  by_cases h0 : i < 0
  · have hs := Lib.hid (show heldR l = none by rw [HU.out]; simp [h0])
    clear HU
    go_wp2_with (first
      | ((with_reducible show wpList _ _ _ (Oper.mk _ (.store _ _ _) _ _ _ _ :: _) _ _); refine wpList_store_row rfl 48 (.tmp 2) (.tmp 17) rfl b ev0.cells.toArray rfl rfl _ _ H1.out.2 (by kernel_rfl) (by rfl) (all_oneCell_toArray (ev_cells_one ev0)) ?_))
    rw [hs.out]
    refine bodyPost_ret (results_cell_slot rfl _ _ b 48 ev0.cells.toArray (0, 0) _ rfl (setRow_heap _ _ _ _ _ _ H1.out.2) Try.underlying48 rfl (by kernel_rfl) rfl) rfl ⟨rfl, H1.out.1.setRow (.inr HW.out) _⟩
  · obtain ⟨k, rfl⟩ := Int.eq_ofNat_of_zero_le (show 0 ≤ i by omega)
    have hk : k < l.length := by omega
    obtain ⟨g, o, rfl, hcell, _⟩ := (HV.out _ H1.out.1).at hk
    rw [Int.toNat_natCast] at HU
    generalize l.getD k ev0 = e at *
    have q0 : w1.cell? ⟨g, o + k * 7, none⟩ = some (.int .i64 e.kind) := hcell 0 (by omega)
    by_cases h3 : e.kind = 3
    · have hs := Lib.hid (show heldR l = none by rw [HU.out]; simp [h3])
      rw [h3] at q0
      clear HU hcell h3
      go_wp2_with (first
        | ((with_reducible show wpList _ _ _ (Oper.mk _ (.store _ _ _) _ _ _ _ :: _) _ _); refine wpList_store_row rfl 48 (.tmp 2) (.tmp 17) rfl b ev0.cells.toArray rfl rfl _ _ H1.out.2 (by kernel_rfl) (by rfl) (all_oneCell_toArray (ev_cells_one ev0)) ?_))
      rw [hs.out]
      refine bodyPost_ret (results_cell_slot rfl _ _ b 48 ev0.cells.toArray (0, 0) _ rfl (setRow_heap _ _ _ _ _ _ H1.out.2) Try.underlying48 rfl (by kernel_rfl) rfl) rfl ⟨rfl, H1.out.1.setRow (.inr HW.out) _⟩
    · have hs := Lib.hid (show heldR l = some e by rw [HU.out]; simp [h0, h3])
      have h3b : (e.kind == 3) = false := by simp [h3]
      have q1 : w1.cell? ⟨g, o + k * 7 + 1, none⟩ = some (.int .i64 e.time) := hcell 1 (by omega)
      have q2 : w1.cell? ⟨g, o + k * 7 + 2, none⟩ = some (.int .u32 e.ip) := hcell 2 (by omega)
      have q3 : w1.cell? ⟨g, o + k * 7 + 3, none⟩ = some (.int .i64 e.till) := hcell 3 (by omega)
      have q4 : w1.cell? ⟨g, o + k * 7 + 4, none⟩ = some (.int .i64 e.why) := hcell 4 (by omega)
      have q5 : w1.cell? ⟨g, o + k * 7 + 5, none⟩ = some (.int .i64 e.len) := hcell 5 (by omega)
      have q6 : w1.cell? ⟨g, o + k * 7 + 6, none⟩ = some (.slice e.a e.data.length e.cap) := hcell 6 (by omega)
      clear HU hcell h3
      go_wp2_with (first
        | ((with_reducible show wpList _ _ _ (Oper.mk _ (.store _ _ _) _ _ _ _ :: _) _ _); refine wpList_store_row rfl 48 (.tmp 2) (.tmp 21) rfl b e.cells.toArray rfl rfl _ _ H1.out.2 (by kernel_rfl) (by rfl) (all_oneCell_toArray (ev_cells_one e)) ?_))
      rw [hs.out]
      refine bodyPost_ret (results_cell_slot rfl _ _ b 48 e.cells.toArray (0, 0) _ rfl (setRow_heap _ _ _ _ _ _ H1.out.2) Try.underlying48 rfl (by kernel_rfl) rfl) rfl ⟨rfl, H1.out.1.setRow (.inr HW.out) _⟩
end Go.Proofs.Ythoaeolohnalnaa
