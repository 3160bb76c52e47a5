/-
  A script of calls that comes in: what it reads as; the walk of the statement's helper 'beyond'.
-/
import Derived.Test.YthkongkbefpilaaRowB
import Derived.Test.YthkongkbefpilaaLent
import Derived.Deep.Fields
import Derived.ChangeSame
namespace Go.Proofs.Ythkongkbefpilaa
open Go.ChangeShapes Go.WideShapes Go.ChangeAt Go.RowKit Go.Deep Sha

/-- 'v' is a slice of n calls: the kind, the hash it is of, the bytes. -/
def Script (w : World) (v : Value) (n : Nat) (K O : Nat → Int) (B : Nat → Value) (bs : Nat → List UInt8) : Prop :=
  ∃ A c, v = .slice A n c ∧ n ≤ c ∧ (0 < n → ∃ g o, A = some ⟨g, o, none⟩ ∧ ∀ j, j < n →
    w.cell? ⟨g, o + j * 3, none⟩ = some (.int .i64 (K j)) ∧ w.cell? ⟨g, o + j * 3 + 1, none⟩ = some (.int .i64 (O j)) ∧ w.cell? ⟨g, o + j * 3 + 2, none⟩ = some (B j) ∧ RB w (B j) (bs j))
theorem Script.only {w w' : World} {v : Value} {n : Nat} {K O : Nat → Int} {B : Nat → Value} {bs : Nat → List UInt8} (h : Script w v n K O B bs) (ho : Only Nil w w') : Script w' v n K O B bs := by
  obtain ⟨A, c, rfl, hc, h⟩ := h
  refine ⟨A, c, rfl, hc, fun h0 => ?_⟩
  obtain ⟨g, o, rfl, hr⟩ := h h0
  refine ⟨g, o, rfl, fun j hj => ?_⟩
  obtain ⟨h1, h2, h3, h4⟩ := hr j hj
  exact ⟨ho.cell h1 id, ho.cell h2 id, ho.cell h3 id, h4.only ho fun _ _ => id⟩
section
variable {H : Type} {enc : TypeId × Value → H} {w : World} {base : Nat} {spare : Nat → Bool} {held : Bool}
theorem op_parts : ∃ f0 f1 f2 : Field, Try.prog.underlying 39 = some (.struct #[f0, f1, f2]) ∧ f0.type = 3 ∧ f1.type = 3 ∧ f2.type = 37 ∧ oneCellFields Try.prog #[f0, f1, f2] = true ∧ Try.prog.cellsOf 39 = 3 :=
  ⟨_, _, _, Try.underlying39, rfl, rfl, rfl, by kernel_rfl, by kernel_rfl⟩
theorem op_of_trod {fuel : Nat} {cs : List Value} {x : DataW H × List MemPlace} (h : DataW.trod enc Try.prog w base spare held fuel 39 cs = some x) (hl : cs.length = 3) :
    ∃ k o b bs, cs = [.int .i64 k, .int .i64 o, b] ∧ RB w b bs := by
  obtain ⟨f0, f1, f2, hs, t0, t1, t2, hone, hC⟩ := op_parts
  obtain ⟨xs, n, _, _, _, hlen, hg⟩ := DataW.trod_struct hs h
  obtain ⟨o0, k0⟩ := Go.Deep.hone_of hone 0 f0 rfl
  obtain ⟨o1, k1⟩ := Go.Deep.hone_of hone 1 f1 rfl
  obtain ⟨o2, k2⟩ := Go.Deep.hone_of hone 2 f2 rfl
  match cs, hl, xs, hlen with
  | [c0, c1, c2], _, [y0, y1, y2], _ =>
    have g0 := hg 0 f0 rfl
    have g1 := hg 1 f1 rfl
    have g2 := hg 2 f2 rfl
    rw [o0, k0, t0] at g0
    rw [o1, k1, t1] at g1
    rw [o2, k2, t2] at g2
    obtain ⟨a, e0, _, _⟩ := DataW.trod_int Try.underlying3 g0
    obtain ⟨b, e1, _, _⟩ := DataW.trod_int Try.underlying3 g1
    obtain rfl : c0 = .int .i64 a := by simpa using e0
    obtain rfl : c1 = .int .i64 b := by simpa using e1
    obtain ⟨bs, hb, _⟩ := rb_of_trod Try.underlying37 Try.underlying5 (by kernel_rfl) (show DataW.trod enc Try.prog w base spare held n 37 [c2] = some y2 from g2)
    exact ⟨a, b, c2, bs, rfl, hb⟩
theorem script_of_trod {fuel : Nat} {v : Value} {x : DataW H × List MemPlace} (h : DataW.trod enc Try.prog w base spare held fuel 29 [v] = some x) :
    ∃ n K O B bs, Script w v n K O B bs ∧ n ≤ dlen x.1 := by
  rcases open_slice Try.underlying29 h with ⟨hcs, _⟩ | ⟨a, len, cap, m, n, D, Pl, hcs, _, hl, _, hmm, rfl, hat⟩
  · obtain rfl : v = .slice none 0 0 := by simpa using hcs
    exact ⟨0, fun _ => 0, fun _ => 0, fun _ => undef, fun _ => [], ⟨none, 0, rfl, Nat.le_refl _, fun h => absurd h (by omega)⟩, Nat.zero_le _⟩
  · obtain rfl : v = .slice (some a) len cap := by simpa using hcs
    have hlm : len ≤ m := by rw [hmm]; split <;> omega
    have hC : Try.prog.cellsOf 39 = 3 := by kernel_rfl
    obtain ⟨f, hf⟩ := choose_lt (α := (Int × Int) × (Value × List UInt8)) (n := len) (p := fun i y => w.cell? (a.add (i * 3 + 0)) = some (.int .i64 y.1.1) ∧ w.cell? (a.add (i * 3 + 1)) = some (.int .i64 y.1.2) ∧ w.cell? (a.add (i * 3 + 2)) = some y.2.1 ∧ RB w y.2.1 y.2.2) (fun i hi => by
      obtain ⟨cs', hc, ht⟩ := hat i (by omega)
      rw [hC] at hc
      obtain ⟨_, hcl, hcell⟩ := World.cells?_some hc
      obtain ⟨k, o, b, bs, rfl, hb⟩ := op_of_trod ht hcl
      refine ⟨((k, o), (b, bs)), ?_, ?_, ?_, hb⟩
      · have := hcell 0 (by omega)
        rw [add_add] at this
        exact this
      · have := hcell 1 (by omega)
        rw [add_add] at this
        exact this
      · have := hcell 2 (by omega)
        rw [add_add] at this
        exact this)
    refine ⟨len, fun i => (f i).1.1, fun i => (f i).1.2, fun i => (f i).2.1, fun i => (f i).2.2, ⟨some a, cap, rfl, hl, fun h0 => ?_⟩, by simp [dlen]⟩
    obtain ⟨b, off, spot⟩ := a
    have hspot : spot = none := by
      have := World.cell?_spot (hf 0 h0).1
      simpa [Addr.add] using this
    subst hspot
    refine ⟨b, off, rfl, fun j hj => ?_⟩
    obtain ⟨h1, h2, h3, h4⟩ := hf j hj
    rw [Go.WideShapes.add_plain] at h1 h2 h3
    rw [Nat.add_assoc, Nat.add_assoc]
    exact ⟨h1, h2, h3, h4⟩
theorem open_script {r : Reach} {b0 : Nat} {v : Value} {d : DataW H} {ps : List MemPlace} (hval : Value.okWide Try.prog w r b0 29 v) (h : DataW.Trod enc Try.prog w base spare held 29 v d ps) :
    ∃ n K O B bs, Script w v n K O B bs ∧ n ≤ dlen d := by
  obtain ⟨a0, len, cap, rfl⟩ := okWide_slice Try.underlying29 hval
  obtain ⟨fuel, hf⟩ := h
  exact script_of_trod hf
end

/-! ## beyond -/
theorem getD_map_range {α : Type} (f : Nat → α) (n j : Nat) (d : α) (h : j < n) : ((List.range n).map f).getD j d = f j := by simp [List.getD, h]
set_option maxHeartbeats 3200000 in
set_option maxRecDepth 100000 in
theorem beyond_any (v : Value) (n : Nat) (K O : Nat → Int) (B : Nat → Value) (bs : Nat → List UInt8) (w : World) (hS : Script w v n K O B bs) (hn : n ≤ 1048576) :
    Calls Try.prog 14 #[v] w fun e w' => e = .returned (.bool (bey ((List.range n).map bs))) ∧ Only Nil w w' := by
  obtain ⟨ir, hir, hrz, hrs, hrb⟩ := info_parts info_row
  obtain ⟨A, c, rfl, hc, hrow⟩ := hS
  have HR := Lib.hid hrow
  clear hrow hc
  go_enter Try.func14, Try.ntmps14
  go_wp2
  go_loopw [3, 4] (fun out i wr => ∃ k : Nat, k ≤ n ∧ i = .int .i64 (k : Nat) ∧ wr.ownsRow w.heap.size 37 1 out k ((List.range k).map B) ∧ Only Nil w wr) (fun _ i _ => n - (intOf i).toNat)
  case atStart => exact ⟨0, Nat.zero_le _, rfl, ⟨rfl, .inl ⟨rfl, rfl⟩⟩, Only.refl _ _⟩
  case round =>
    obtain ⟨k, hk, rfl, hL, hO⟩ := hrel
    by_cases hlt : k < n
    · obtain ⟨ga, oa, rfl, hcell⟩ := HR.out (by omega)
      obtain ⟨_, _, c2, c3⟩ := hcell k hlt
      have ck := hO.cell c2 id
      obtain ⟨A', c', ex, _⟩ := c3.form
      rw [ex] at ck
      have HK := Lib.hid (show (List.range (k + 1)).map B = (List.range k).map B ++ [.slice A' (bs k).length c'] by rw [List.range_succ, List.map_append, ← ex]; rfl)
      clear ex
      generalize (bs k).length = L at *
      have HL := Lib.hid hL
      have HO := Lib.hid hO
      have hbw := hO.size
      clear hL hO hcell c2 c3
      go_upto_region 4 with ((with_reducible show wpList _ _ _ (Oper.mk _ (.call _) _ _ _ _ :: _) _ _); refine wpList_append_row (by rfl) _ _ _ (by rfl) w.heap.size 37 ir _ 24 Try.underlying23 hir hrz hrs hrb rfl u3 k ((List.range k).map B) (by rfl) (own_only HL.out ((Only.refl Nil wr).alloc _) fun _ _ => id) ⟨wr.heap.size, 0, none⟩ 1 1 [.slice A' L c'] (by rfl) (by rfl) (news_block (Blk.new wr 37 [.slice A' L c'])) (fun u hu => by obtain rfl := List.mem_singleton.1 hu; rfl) (by omega) (by unfold maxLen; omega) (by omega) (by simp; omega) ?_; intro g6 cap6 w6 hg6)
      have HG := Lib.hid (grew_only hg6 HL.out HO.out ((Only.refl Nil wr).alloc _) (Nat.le_refl _)).1
      have HE := Lib.hid hg6.own
      clear hg6 ck
      go_wp2
      go_roundw
      case rel => exact ⟨k + 1, by omega, by go_num, by rw [HK.out]; exact HE.out, HG.out⟩
      case measure => simp [intOf]; omega
    · have hkn : k = n := by omega
      subst hkn
      have hP : Parts wr u3 ((List.range k).map B) ((List.range k).map bs) := by
        refine ⟨own_reads hL, by simp, fun j hj => ?_⟩
        have hj : j < k := by simpa using hj
        rw [getD_map_range _ _ _ _ hj, getD_map_range _ _ _ _ hj]
        obtain ⟨g, o, _, h⟩ := HR.out (by omega)
        exact (h j hj).2.2.2.only hO fun _ _ => id
      have HP := Lib.hid hP
      have HO := Lib.hid hO
      clear hP hL hO
      go_wp2_with (go_at_call 9; refine (bey_any _ _ _ _ HP.out (by simp; omega)).mono ?_; rintro e w6 ⟨rfl, rfl⟩)
      go_ret
      exact ⟨rfl, HO.out⟩
end Go.Proofs.Ythkongkbefpilaa
