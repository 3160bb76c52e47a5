/-
  The walks of the statements' helpers 'lent' and 'kept': parts copied into memory of their own with two marked bytes behind each; whether they still read so.
-/
import Derived.Test.YthkongkbefpilaaDig17
import Derived.Test.YthkongkbefpilaaCut
namespace Go.Proofs.Ythkongkbefpilaa
open Go.RowKit Sha

/-- x is a slice of the bytes bs in a block of its own between base and top, with two marked bytes behind. -/
def Own2 (W : World) (base top : Nat) (x : Value) (bs : List UInt8) : Prop :=
  ∃ g cap, base ≤ g ∧ g < top ∧ x = .slice (some ⟨g, 0, none⟩) bs.length cap ∧ W.ownsRow base 5 1 (.slice (some ⟨g, 0, none⟩) (bs.length + 2) cap) (bs.length + 2) (BC (bs ++ [201, 202]))
theorem Own2.only {S : Nat → Prop} {W W' : World} {base top : Nat} {x : Value} {bs : List UInt8} (h : Own2 W base top x bs) (ho : Only S W W') (hS : ∀ g, x.ownBlock = some g → ¬ S g) : Own2 W' base top x bs := by
  obtain ⟨g, cap, h1, h2, rfl, h3⟩ := h
  exact ⟨g, cap, h1, h2, rfl, own_only h3 ho fun g' hg' => hS g' hg'⟩
theorem Own2.top {W : World} {base top top' : Nat} {x : Value} {bs : List UInt8} (h : Own2 W base top x bs) (ht : top ≤ top') : Own2 W base top' x bs := by
  obtain ⟨g, cap, h1, h2, h3⟩ := h
  exact ⟨g, cap, h1, by omega, h3⟩
theorem Own2.base {W : World} {base base' top : Nat} {x : Value} {bs : List UInt8} (h : Own2 W base top x bs) (ht : base' ≤ base) : Own2 W base' top x bs := by
  obtain ⟨g, cap, h1, h2, h3, h4⟩ := h
  exact ⟨g, cap, by omega, h2, h3, World.ownsRow.mono h4 ht⟩
theorem Own2.block {W : World} {base top : Nat} {x : Value} {bs : List UInt8} (h : Own2 W base top x bs) : ∃ g, x.ownBlock = some g ∧ base ≤ g ∧ g < top := by
  obtain ⟨g, cap, h1, h2, rfl, _⟩ := h
  exact ⟨g, rfl, h1, h2⟩
theorem Own2.reads {W : World} {base top : Nat} {x : Value} {bs : List UInt8} (h : Own2 W base top x bs) : RB W x bs := by
  obtain ⟨g, cap, h1, h2, rfl, h4⟩ := h
  have hc : bs.length + 2 ≤ cap := by
    rcases h4.2 with ⟨h, _⟩ | ⟨g', cap', cur, h, _, _, hc, _⟩
    · cases h
    · injection h with _ _ h
      omega
  refine ⟨some ⟨g, 0, none⟩, cap, rfl, by omega, fun _ => ⟨g, 0, rfl, fun j hj => ?_⟩⟩
  have := World.ownsRow.cells h4 (g := g) rfl j _ (by rw [BC_get _ _ (by rw [List.length_append]; omega)])
  rw [Addr.add_mid] at this
  rw [this]
  simp [List.getD, List.getElem?_append_left hj]
structure LentOk (W : World) (base top : Nat) (v : Value) (xs : List Value) (ps : List (List UInt8)) : Prop where
  row : W.ownsRow base 37 1 v ps.length xs
  each : ∀ j, j < ps.length → Own2 W base top (xs.getD j undef) (ps.getD j [])
  apart : ∀ i j, i < j → j < ps.length → (xs.getD i undef).ownBlock ≠ (xs.getD j undef).ownBlock
  off : ∀ j, j < ps.length → (xs.getD j undef).ownBlock ≠ v.ownBlock
theorem LentOk.len {W : World} {base top : Nat} {v : Value} {xs : List Value} {ps : List (List UInt8)} (h : LentOk W base top v xs ps) : xs.length = ps.length := by have := h.row.1; omega
theorem LentOk.parts {W : World} {base top : Nat} {v : Value} {xs : List Value} {ps : List (List UInt8)} (h : LentOk W base top v xs ps) : Parts W v xs ps :=
  ⟨own_reads h.row, h.len, fun j hj => (h.each j hj).reads⟩
theorem LentOk.only {W W' : World} {base top : Nat} {v : Value} {xs : List Value} {ps : List (List UInt8)} (h : LentOk W base top v xs ps) (ho : Only Nil W W') : LentOk W' base top v xs ps :=
  ⟨own_only h.row ho fun _ _ => id, fun j hj => (h.each j hj).only ho fun _ _ => id, h.apart, h.off⟩
theorem getD_left {α : Type} (xs ys : List α) (d : α) (j : Nat) (h : j < xs.length) : (xs ++ ys).getD j d = xs.getD j d := by simp [List.getD, List.getElem?_append_left h]
theorem getD_last {α : Type} (xs : List α) (x d : α) (j : Nat) (h : j = xs.length) : (xs ++ [x]).getD j d = x := by subst h; simp [List.getD]
/-- One more. -/
theorem LentOk.push {wr w5 w6 : World} {base k g6 cap6 : Nat} {out x : Value} {xs : List Value} {qs : List (List UInt8)} {bs : List UInt8} {o : Obj} (hk : qs.length = k) (hL : LentOk wr base wr.heap.size out xs qs) (hO5 : Only Nil wr w5)
    (hx : Own2 w5 wr.heap.size w5.heap.size x bs) (hb : base ≤ wr.heap.size) (hg : Grew (w5.alloc o) w6 base 37 out k 1 xs [x] g6 cap6) : LentOk w6 base w6.heap.size (.slice (some ⟨g6, 0, none⟩) (k + 1) cap6) (xs ++ [x]) (qs ++ [bs]) := by
  subst hk
  have hsz5 := hO5.size
  have hgr : Only (fun i => out.ownBlock = some i) (w5.alloc o) w6 := Only.of_grown hg.grown fun i hi => .inl hi
  have hsz6 := hgr.size
  rw [World.size_alloc] at hsz6
  have hxl := hL.len
  have hob := own_block hL.row
  obtain ⟨gx, ex, hx1, hx2⟩ := hx.block
  have hxo : out.ownBlock ≠ some gx := fun h => by have := (hob gx h).2; omega
  refine ⟨by have := hg.own; rwa [List.length_append], fun j hj => ?_, fun i j hij hj => ?_, fun j hj => ?_⟩
  · rw [List.length_append, List.length_singleton] at hj
    by_cases hjk : j < qs.length
    · rw [getD_left _ _ _ _ (by omega), getD_left _ _ _ _ hjk]
      have h := hL.each j hjk
      have hoff := hL.off j hjk
      exact (((h.only hO5 fun _ _ => id).only ((Only.refl Nil w5).alloc o) fun _ _ => id).only hgr fun g hg he => hoff (hg.trans he.symm)).top (by omega)
    · rw [getD_last _ _ _ _ (by omega), getD_last _ _ _ _ (by omega)]
      refine (((hx.only ((Only.refl Nil w5).alloc o) fun _ _ => id).only hgr fun g hg he => ?_).top (by omega)).base hb
      rw [ex] at hg
      rw [← hg] at he
      exact hxo he
  · rw [List.length_append, List.length_singleton] at hj
    rw [getD_left _ _ _ i (by omega)]
    by_cases hjk : j < qs.length
    · rw [getD_left _ _ _ j (by omega)]
      exact hL.apart i j hij hjk
    · rw [getD_last _ _ _ j (by omega), ex]
      obtain ⟨gi, ei, _, hi2⟩ := (hL.each i (by omega)).block
      rw [ei]
      intro h
      injection h with h
      omega
  · rw [List.length_append, List.length_singleton] at hj
    show _ ≠ some g6
    by_cases hjk : j < qs.length
    · rw [getD_left _ _ _ j (by omega)]
      rcases hg.at' with h | h
      · rw [← h]
        exact hL.off j hjk
      · obtain ⟨gi, ei, _, hi2⟩ := (hL.each j hjk).block
        rw [ei, h, World.size_alloc]
        intro h
        injection h with h
        omega
    · rw [getD_last _ _ _ j (by omega), ex]
      rcases hg.at' with h | h
      · rw [← h]
        exact fun h => hxo h.symm
      · rw [h, World.size_alloc]
        intro h
        injection h with h
        omega
theorem slice_marked {g n cap : Nat} (hk : n ≤ cap) (W : World) : (Instr.slice 37 (.slice (some ⟨g, 0, none⟩) (n + 2) cap) none (some (.int .i64 (n : Int))) none).run Try.prog W = .ok (.slice (some ⟨g, 0, none⟩) n cap) W := by
  have h := slice_bytes_h (A := some ⟨g, 0, none⟩) (n := n + 2) (c := cap) (k := n) hk W
  have e : sliced (some ⟨g, 0, none⟩) 0 n cap 1 = .slice (some ⟨g, 0, none⟩) n cap := by
    unfold sliced
    simp [Addr.add]
  rwa [e] at h
theorem info_row : (Try.prog.info? 37).map (fun i => (i.zero, i.size, i.bytes)) = some (some (.slice none 0 0), 1, 24) := by kernel_rfl

theorem run_append_none (ty : TypeId) (A : Option Addr) (c : Nat) (w : World) : (Builtin.append_ #[37, 37] ty #[.slice none 0 0, .slice A 0 c]).run Try.prog w = .ok (.slice none 0 0) w := by
  cases A <;> kernel_rfl
theorem wpList_append_none {w : World} {ops : Array Oper} {rest : List Oper} {o : Oper} {a : Act} {Q : Exit → Act → World → Prop} (hgd : o.guard = none) (s x : Operand)
    (ho : o.op = .call { callee := .builtin .append, args := #[s, x], argTypes := #[37, 37] }) (hs : a.eval s = .slice none 0 0) (A : Option Addr) (c : Nat) (hx : a.eval x = .slice A 0 c)
    (h : wpList Try.prog ops Q rest (a.put o.dst (.slice none 0 0)) w) : wpList Try.prog ops Q (o :: rest) a w := by
  refine wpList_plain hgd fun _ hK => ?_
  have hrun := run_append_none o.type A c w
  unfold Oper.wp
  simp [execOp, ho, resolve, invoke, builtin, hs, hx, hrun, Result.andThen]
  exact hK _ _ h
set_option maxHeartbeats 3200000 in
set_option maxRecDepth 100000 in
theorem lent_any (v : Value) (vs : List Value) (ps : List (List UInt8)) (w : World) (hP : Parts w v vs ps) (hlen : ps.flatten.length + ps.length ≤ 2147483647) :
    Calls Try.prog 10 #[v] w fun e w' => ∃ v' xs, e = .returned v' ∧ LentOk w' w.heap.size w'.heap.size v' xs ps ∧ Only Nil w w' := by
  obtain ⟨ib, hib, hbz, hbs, hbb⟩ := info_parts info_byte
  obtain ⟨ir, hir, hrz, hrs, hrb⟩ := info_parts info_row
  obtain ⟨A, c, rfl, hc, hrow⟩ := hP.row
  have hn := hP.len
  have HP := Lib.hid hP
  have HN := Lib.hid hn
  have HR := Lib.hid hrow
  clear hP hn hrow hc
  go_enter Try.func10, Try.ntmps10
  go_wp2
  go_loopw [3, 4] (fun out i wr => ∃ k xs, k ≤ vs.length ∧ i = .int .i64 (k : Nat) ∧ LentOk wr w.heap.size wr.heap.size out xs (ps.take k) ∧ Only Nil w wr) (fun _ i _ => vs.length - (intOf i).toNat)
  case atStart => exact ⟨0, [], Nat.zero_le _, rfl, ⟨⟨rfl, .inl ⟨rfl, rfl⟩⟩, fun j hj => absurd hj (by simp), fun i j hij hj => absurd hj (by simp), fun j hj => absurd hj (by simp)⟩, Only.refl _ _⟩
  case round =>
    obtain ⟨k, xs, hk, rfl, hL, hO⟩ := hrel
    by_cases hlt : k < vs.length
    · obtain ⟨ga, oa, rfl, hcell⟩ := HR.out (by omega)
      have ck := hO.cell (hcell k hlt) id
      have hlt2 : k < ps.length := by rw [← HN.out]; exact hlt
      have hb := HP.out.each k hlt2
      obtain ⟨A', c', hv, hc'⟩ := hb.form
      have hfl := flat_le ps (k + 1)
      rw [flat_succ ps k hlt2, List.length_append] at hfl
      have hbl : (ps.getD k []).length ≤ 2147483647 := by omega
      have HT := Lib.hid (show ps.take (k + 1) = ps.take k ++ [ps.getD k []] by rw [List.take_add_one]; simp [List.getD, hlt2])
      have HB := Lib.hid (hb.only hO fun _ _ => id)
      have HTL := Lib.hid (show (ps.take k).length = k by rw [List.length_take]; omega)
      rw [hv] at ck
      rw [hv] at HB
      generalize ps.getD k [] = bs at *
      have HL := Lib.hid hL
      have HO := Lib.hid hO
      clear hb hL hO hcell hv hfl
      go_upto_region 5 with fail
      go_cut [5] from 6 to 29 (fun t wx => OB wx wr.heap.size t bs ∧ Only Nil wr wx)
      case first =>
        by_cases h0 : bs = []
        · subst h0
          go_wp2_with ((with_reducible show wpList _ _ _ (Oper.mk _ (.call _) _ _ _ _ :: _) _ _); refine wpList_append_none (by rfl) _ _ (by rfl) (by rfl) A' c' (by rfl) ?_)
          go_meet
          exact ⟨OB.nil _ _, Only.refl _ _⟩
        · have hl0 : 0 < bs.length := by cases bs with | nil => exact absurd rfl h0 | cons _ _ => simp
          obtain ⟨gb, ob, rfl, hbc⟩ : ∃ gb ob, A' = some ⟨gb, ob, none⟩ ∧ ∀ j u, (BC bs)[j]? = some u → wr.cell? ((⟨gb, ob, none⟩ : Addr).add j) = some u := by
            obtain ⟨A2, c2, e, _, hr⟩ := HB.out
            injection e with e1 e2 e3
            subst e1
            obtain ⟨g, o, rfl, hr2⟩ := hr hl0
            refine ⟨g, o, rfl, fun j u hu => ?_⟩
            have hj : j < bs.length := by have := (List.getElem?_eq_some_iff.1 hu).1; rwa [BC_length] at this
            rw [BC_get _ _ hj] at hu
            rw [Addr.add_mid]
            exact (hr2 j hj).trans hu
          go_wp2_with ((with_reducible show wpList _ _ _ (Oper.mk _ (.call _) _ _ _ _ :: _) _ _); refine wpList_append_row (by rfl) _ _ _ (by rfl) wr.heap.size 5 ib _ 1 Try.underlying37 hib hbz hbs hbb rfl _ 0 [] (by rfl) ⟨rfl, .inl ⟨rfl, rfl⟩⟩ ⟨gb, ob, none⟩ bs.length c' (BC bs) (by rfl) (BC_length _) hbc (BC_one _) hl0 (by unfold maxLen; omega) (by omega) (Nat.le_refl _) ?_; intro g5 cap5 w5 hg5)
          go_meet
          exact ⟨by have := hg5.own; rw [Nat.zero_add, List.nil_append] at this; exact this, (Only.refl Nil wr).trans (Only.of_grown hg5.grown (S := Nil) fun k hk => by cases hk) fun _ h => .inl h⟩
      case rest =>
        obtain ⟨hob, ho5⟩ := hcut
        have H5 := Lib.hid hob
        have O5 := Lib.hid ho5
        have hsz5 := ho5.size
        clear hob ho5
        have ck5 := O5.out.cell ck id
        go_upto_region 7 with ((with_reducible show wpList _ _ _ (Oper.mk _ (.call _) _ _ _ _ :: _) _ _); refine wpList_append_row (by rfl) _ _ _ (by rfl) wr.heap.size 5 ib _ 1 Try.underlying37 hib hbz hbs hbb rfl _ bs.length (BC bs) (by rfl) (H5.out.alloc _) ⟨wc.heap.size, 0, none⟩ 2 2 (BC [201, 202]) (by rfl) (by rfl) (news_block (Blk.new wc 5 (BC [201, 202]))) (BC_one _) (by omega) (by unfold maxLen; omega) (by omega) (by simp; omega) ?_; intro g5 cap5 w5 hg5)
        have hO7 := (grew_only hg5 H5.out O5.out ((Only.refl Nil wc).alloc _) (Nat.le_refl _)).1
        have hown := hg5.own
        rw [← BC_append] at hown
        have hcap : bs.length ≤ cap5 := by
          rcases hown.2 with ⟨h, _⟩ | ⟨g', cap', cur, h, _, _, hc, _⟩
          · cases h
          · injection h with _ _ h
            omega
        have HX := Lib.hid (show Own2 w5 wr.heap.size w5.heap.size (.slice (some ⟨g5, 0, none⟩) bs.length cap5) bs from ⟨g5, cap5, (own_block hown g5 rfl).1, (own_block hown g5 rfl).2, rfl, hown⟩)
        have hsl := fun W => slice_marked (g := g5) hcap W
        have ck7 := hO7.cell ck id
        have O7 := Lib.hid hO7
        have hbw := HO.out.size
        have hsz7 := hO7.size
        clear hg5 H5 O5 hown hcap ck ck5 hO7
        go_upto_region 4 with ((with_reducible show wpList _ _ _ (Oper.mk _ (.call _) _ _ _ _ :: _) _ _); refine wpList_append_row (by rfl) _ _ _ (by rfl) w.heap.size 37 ir _ 24 Try.underlying23 hir hrz hrs hrb rfl u3 k xs (by rfl) (own_only (by have := HL.out.row; rw [HTL.out] at this; exact this) (O7.out.alloc _) fun _ _ => id) ⟨w5.heap.size, 0, none⟩ 1 1 [.slice (some ⟨g5, 0, none⟩) bs.length cap5] (by rfl) (by rfl) (news_block (Blk.new w5 37 [.slice (some ⟨g5, 0, none⟩) bs.length cap5])) (fun u hu => by obtain rfl := List.mem_singleton.1 hu; rfl) (by omega) (by unfold maxLen; omega) (by omega) (by simp; omega) ?_; intro g6 cap6 w6 hg6)
        have HE := Lib.hid (LentOk.push HTL.out HL.out O7.out HX.out hbw hg6)
        have HG := Lib.hid (grew_only hg6 (by have := HL.out.row; rw [HTL.out] at this; exact this) HO.out (O7.out.alloc _) (Nat.le_refl _)).1
        clear hg6 ck7
        go_wp2
        go_roundw
        case rel => exact ⟨k + 1, xs ++ [.slice (some ⟨g5, 0, none⟩) bs.length cap5], by omega, by go_num, by rw [HT.out]; exact HE.out, HG.out⟩
        case measure => simp [intOf]; omega
    · have ht : ps.take k = ps := List.take_of_length_le (by rw [← HN.out]; omega)
      rw [ht] at hL
      have HL := Lib.hid hL
      have HO := Lib.hid hO
      clear hL hO ht
      go_wp2
      go_ret
      exact ⟨u3, xs, rfl, HL.out, HO.out⟩

/-! ## kept -/
def Within (base top : Nat) : Nat → Prop := fun g => base ≤ g ∧ g < top
theorem RB.off {S : Nat → Prop} {w w' : World} {v : Value} {bs : List UInt8} (h : RB w v bs) (ho : Only S w w') (hS : 0 < bs.length → ∀ g, blkOf v = some g → ¬ S g) : RB w' v bs := by
  obtain ⟨A, c, rfl, hc, h⟩ := h
  refine ⟨A, c, rfl, hc, fun h0 => ?_⟩
  obtain ⟨g, o, rfl, hr⟩ := h h0
  exact ⟨g, o, rfl, fun j hj => ho.cell (hr j hj) (hS h0 g rfl)⟩
theorem Parts.off {S : Nat → Prop} {w w' : World} {v : Value} {vs : List Value} {ps : List (List UInt8)} (h : Parts w v vs ps) (ho : Only S w w') (h1 : 0 < vs.length → ∀ g, blkOf v = some g → ¬ S g)
    (h2 : ∀ j, j < ps.length → 0 < (ps.getD j []).length → ∀ g, blkOf (vs.getD j undef) = some g → ¬ S g) : Parts w' v vs ps := by
  refine ⟨?_, h.len, fun j hj => (h.each j hj).off ho (h2 j hj)⟩
  obtain ⟨A, c, rfl, hc, hr⟩ := h.row
  refine ⟨A, c, rfl, hc, fun h0 => ?_⟩
  obtain ⟨g, o, rfl, hr2⟩ := hr h0
  exact ⟨g, o, rfl, fun j hj => ho.cell (hr2 j hj) (h1 h0 g rfl)⟩
structure KeptAt (w : World) (base top : Nat) (l : Value) (xs : List Value) (ps : List (List UInt8)) (k : Nat) (wr : World) : Prop where
  row : wr.ownsRow base 37 1 l ps.length xs
  each : ∀ j, k ≤ j → j < ps.length → Own2 wr base top (xs.getD j undef) (ps.getD j [])
  only : Only (Within base top) w wr
theorem LentOk.kept {w : World} {base top : Nat} {l : Value} {xs : List Value} {ps : List (List UInt8)} (h : LentOk w base top l xs ps) : KeptAt w base top l xs ps 0 w :=
  ⟨h.row, fun j _ hj => h.each j hj, Only.refl _ _⟩
theorem KeptAt.next {w wr wx : World} {base top : Nat} {l : Value} {xs : List Value} {ps : List (List UInt8)} {k g : Nat} (h : KeptAt w base top l xs ps k wr) (hL : LentOk w base top l xs ps) (hk : k < ps.length) (hg : (xs.getD k undef).ownBlock = some g) (ho : Only (One g) wr wx) :
    KeptAt w base top l xs ps (k + 1) wx := by
  obtain ⟨g', e, h1, h2⟩ := (hL.each k hk).block
  rw [hg] at e
  injection e with e
  subst e
  refine ⟨own_only h.row ho fun i hi he => hL.off k hk (by rw [hg, hi, show i = g from he]), fun j hj hjl => (h.each j (by omega) hjl).only ho fun i hi he => hL.apart k j (by omega) hjl (by rw [hg, hi, show i = g from he]), h.only.trans ho fun i hi => .inl (by rw [show i = g from hi]; exact ⟨h1, h2⟩)⟩
theorem Own2.cells {W : World} {base top : Nat} {x : Value} {bs : List UInt8} (h : Own2 W base top x bs) : ∃ g cap, x = .slice (some ⟨g, 0, none⟩) bs.length cap ∧ bs.length + 2 ≤ cap ∧ W.cell? ⟨g, bs.length, none⟩ = some (.int .u8 201) ∧ W.cell? ⟨g, bs.length + 1, none⟩ = some (.int .u8 202) ∧
    ∃ cur : Array Value, W.heap[g]? = some (.cells cur 5 (0, 0)) ∧ bs.length + 2 ≤ cur.size := by
  obtain ⟨g, cap, h1, h2, rfl, h4⟩ := h
  have hcell := fun j u hu => World.ownsRow.cells h4 (g := g) rfl j u hu
  rcases h4.2 with ⟨h, _⟩ | ⟨g', cap', cur, h, _, hh, hc, _, hcs, _⟩
  · cases h
  · injection h with e1 e2 e3
    injection e1 with e1
    injection e1 with e1
    subst e1 e3
    refine ⟨g, cap, rfl, hc, ?_, ?_, cur, hh, by omega⟩
    · have := hcell bs.length (.int .u8 201) (by rw [BC_append, List.getElem?_append_right (by rw [BC_length]; exact Nat.le_refl _), BC_length, Nat.sub_self]; rfl)
      rwa [Addr.add_mid, Nat.zero_add] at this
    · have := hcell (bs.length + 1) (.int .u8 202) (by rw [BC_append, List.getElem?_append_right (by rw [BC_length]; omega), BC_length, show bs.length + 1 - bs.length = 1 by omega]; rfl)
      rwa [Addr.add_mid, Nat.zero_add] at this
theorem slice_all {g n cap : Nat} (hk : n + 2 ≤ cap) (W : World) : (Instr.slice 37 (.slice (some ⟨g, 0, none⟩) n cap) none (some (.int .i64 ((n : Int) + 2))) none).run Try.prog W = .ok (.slice (some ⟨g, 0, none⟩) (n + 2) cap) W := by
  have h := slice_bytes_h (A := some ⟨g, 0, none⟩) (n := n) (c := cap) (k := n + 2) hk W
  have e : sliced (some ⟨g, 0, none⟩) 0 (n + 2) cap 1 = .slice (some ⟨g, 0, none⟩) (n + 2) cap := by
    unfold sliced
    simp [Addr.add]
  rwa [e] at h
theorem KeptAt.drewN {w wr : World} {base top : Nat} {l : Value} {xs : List Value} {ps : List (List UInt8)} {k : Nat} (h : KeptAt w base top l xs ps k wr) (n : Nat) : KeptAt w base top l xs ps k (wr.drewN n) := ⟨h.row, h.each, h.only.drewN n⟩
/-- A block of bytes while it is written over. -/
def Over (g n : Nat) (w wr : World) : Prop := Only (One g) w wr ∧ ∃ cur : Array Value, wr.heap[g]? = some (.cells cur 5 (0, 0)) ∧ n ≤ cur.size
theorem Over.drewN {g n : Nat} {w : World} (h : Over g n w w) (k : Nat) : Over g n (w.drewN k) (w.drewN k) := ⟨Only.refl _ _, h.2⟩
theorem Over.put {g n k : Nat} {w wr : World} (h : Over g n w wr) (u : Value) : Over g n w (wr.setCell ⟨g, k, none⟩ u) := by
  obtain ⟨ho, cur, hh, hn⟩ := h
  refine ⟨ho.setCell (p := ⟨g, k, none⟩) (.inl (One.self g)) u, cur.setIfInBounds k u, ?_, by simpa using hn⟩
  simp [World.setCell, Array.getElem?_modify, hh]
theorem Over.cell {g n k : Nat} {w wr : World} (h : Over g n w wr) (hk : k < n) : (∃ u, wr.cell? ⟨g, k, none⟩ = some u) ∧ wr.frozen? ⟨g, k, none⟩ = false := by
  obtain ⟨ho, cur, hh, hn⟩ := h
  refine ⟨⟨cur[k]'(by omega), ?_⟩, by simp [World.frozen?, hh]⟩
  have := cell_of_row wr g k cur 5 (0, 0) hh
  rw [this]
  exact Array.getElem?_eq_getElem _

set_option maxHeartbeats 3200000 in
set_option maxRecDepth 100000 in
theorem kept_any (l p : Value) (xs vs : List Value) (ps : List (List UInt8)) (base top : Nat) (w : World) (hL : LentOk w base top l xs ps) (hP : Parts w p vs ps) (hlen : ps.flatten.length + ps.length ≤ 2147483647)
    (h1 : 0 < vs.length → ∀ g, blkOf p = some g → ¬ Within base top g) (h2 : ∀ j, j < ps.length → 0 < (ps.getD j []).length → ∀ g, blkOf (vs.getD j undef) = some g → ¬ Within base top g) :
    Calls Try.prog 12 #[l, p] w fun e w' => e = .returned (.bool true) ∧ Only (Within base top) w w' := by
  obtain ⟨A, c, rfl, hc, _⟩ := hP.row
  obtain ⟨Al, cl, el, _⟩ := own_reads hL.row
  rw [hL.len] at el
  subst el
  have hn := hP.len
  have HN := Lib.hid hn
  have HP := Lib.hid fun wr (ho : Only (Within base top) w wr) => hP.off ho h1 h2
  have HL := Lib.hid hL
  clear hP h1 h2 hL hc
  rw [hn] at HP ⊢
  have hps : ps.length ≤ 2147483647 := by omega
  go_enter Try.func12, Try.ntmps12
  go_wp2
  go_loopw [5, 6] (fun good i wr => ∃ k : Nat, k ≤ ps.length ∧ i = .int .i64 k ∧ good = .bool true ∧ KeptAt w base top (.slice Al ps.length cl) xs ps k wr) (fun _ i _ => ps.length - (intOf i).toNat)
  case atStart => exact ⟨0, Nat.zero_le _, rfl, rfl, HL.out.kept⟩
  case round =>
    obtain ⟨k, hk, rfl, rfl, hK⟩ := hrel
    by_cases hlt : k < ps.length
    · obtain ⟨g, cap, ex, hcap, c201, c202, cur, hcur, hcs⟩ := (hK.each k (Nat.le_refl _) hlt).cells
      have hPk := HP.out wr hK.only
      obtain ⟨A', c', ev, hc'⟩ := (hPk.each k hlt).form
      have hb1 := (hK.each k (Nat.le_refl _) hlt).reads
      have hb2 := hPk.each k hlt
      have hbl : (ps.getD k []).length ≤ 2147483647 := by
        have hfl := flat_le ps (k + 1)
        rw [flat_succ ps k hlt, List.length_append] at hfl
        omega
      obtain ⟨gl, ol, hAl, hlc⟩ : ∃ gl ol, Al = some ⟨gl, ol, none⟩ ∧ wr.cell? ⟨gl, ol + k, none⟩ = some (xs.getD k undef) := by
        obtain ⟨A2, c2, e, _, hr⟩ := own_reads hK.row
        injection e with e1 e2 e3
        subst e1
        obtain ⟨g, o, rfl, hr2⟩ := hr (by rw [HL.out.len]; omega)
        exact ⟨g, o, rfl, hr2 k (by rw [HL.out.len]; exact hlt)⟩
      obtain ⟨gp, op, hAp, hpc⟩ : ∃ gp op, A = some ⟨gp, op, none⟩ ∧ wr.cell? ⟨gp, op + k, none⟩ = some (vs.getD k undef) := by
        obtain ⟨A2, c2, e, _, hr⟩ := hPk.row
        injection e with e1 e2 e3
        subst e1
        obtain ⟨g, o, rfl, hr2⟩ := hr (by rw [HN.out]; omega)
        exact ⟨g, o, rfl, hr2 k (by rw [HN.out]; exact hlt)⟩
      subst hAl hAp
      have HG := Lib.hid (show (xs.getD k undef).ownBlock = some g by rw [ex]; rfl)
      have HK := Lib.hid hK
      have HC := Lib.hid (show Over g ((ps.getD k []).length + 2) wr wr from ⟨Only.refl _ _, cur, hcur, hcs⟩)
      rw [ex] at hlc hb1
      rw [ev] at hpc hb2
      generalize ps.getD k [] = bs at *
      have hsl := fun W => slice_all (g := g) hcap W
      clear hPk hK ex ev hcur hcs hcap hn
      go_upto_region 5 with fail
      go_quiet (fail)
      go_upto_region 6 with fail
      refine wp_gen (fun W => KeptAt w base top (.slice (some ⟨gl, ol, none⟩) ps.length cl) xs ps k W ∧ Over g (bs.length + 2) W W ∧ (W.cell? ⟨g, bs.length, none⟩ = some (.int .u8 201) ∧ W.cell? ⟨g, bs.length + 1, none⟩ = some (.int .u8 202) ∧ W.cell? ⟨gl, ol + k, none⟩ = some (.slice (some ⟨g, 0, none⟩) bs.length cap) ∧ W.cell? ⟨gp, op + k, none⟩ = some (.slice A' bs.length c')) ∧ 
        (∀ n, (convert 37 9 (.slice (some ⟨g, 0, none⟩) bs.length cap)).run Try.prog (W.drewN n) = .ok (.string (str bs)) (W.drewN n)) ∧ (∀ n, (convert 37 9 (.slice A' bs.length c')).run Try.prog (W.drewN n) = .ok (.string (str bs)) (W.drewN n))) ⟨HK.out.drewN nq, HC.out.drewN nq, ⟨c201, c202, hlc, hpc⟩, fun n => (str_of (P := Try.prog) (src := 37) (e := 5) (dst := 9) Try.underlying37 Try.underlying5 Try.underlying9 ((hb1.drewN nq).drewN n)), fun n => (str_of (P := Try.prog) (src := 37) (e := 5) (dst := 9) Try.underlying37 Try.underlying5 Try.underlying9 ((hb2.drewN nq).drewN n))⟩ ?_
      clear hb1 hb2 hlc hpc c201 c202 HC HK hsl
      intro W1 ⟨hK, hC, ⟨c201, c202, hlc, hpc⟩, st1, st2⟩
      have HK := Lib.hid hK
      have HC := Lib.hid hC
      clear hK hC
      go_quiet (fail)
      go_upto_region 7 with fail
      refine wp_gen (fun W => KeptAt w base top (.slice (some ⟨gl, ol, none⟩) ps.length cl) xs ps k W ∧ Over g (bs.length + 2) W W) ⟨HK.out.drewN nq, HC.out.drewN nq⟩ ?_
      clear st1 st2 hlc hpc c201 c202 HC HK
      intro W2 ⟨hK, hC⟩
      have HK := Lib.hid hK
      have HC := Lib.hid hC
      clear hK hC
      go_wp2
      go_loopw [8] (fun j wr => ∃ m : Nat, m ≤ bs.length + 2 ∧ j = .int .i64 m ∧ Over g (bs.length + 2) W2 wr) (fun j _ => bs.length + 2 - (intOf j).toNat)
      case atStart => exact ⟨0, Nat.zero_le _, rfl, HC.out⟩
      case round =>
        rename_i wr3
        obtain ⟨m, hm, rfl, hOv⟩ := hrel
        have hm2 : (m : Int) ≤ (bs.length : Int) + 2 := by omega
        by_cases hlt3 : m < bs.length + 2
        · obtain ⟨⟨u, c1⟩, c2⟩ := hOv.cell hlt3
          have HO3 := Lib.hid (hOv.put (k := m) (.int .u8 77))
          have hlt4 : (m : Int) < (bs.length : Int) + 2 := by omega
          clear hOv
          go_wp2
          go_roundw
          case rel => exact ⟨m + 1, by omega, by go_num, HO3.out⟩
          case measure => simp [intOf]; omega
        · have HO3 := Lib.hid (HK.out.next HL.out hlt HG.out hOv.1)
          have hlt4 : ¬ (m : Int) < (bs.length : Int) + 2 := by omega
          clear hOv
          go_wp2
          go_roundw
          case rel => exact ⟨k + 1, by omega, by go_num, rfl, HO3.out⟩
          case measure => simp [intOf]; omega
    · have HO := Lib.hid hK.only
      clear hK
      go_wp2
      go_ret
      exact ⟨rfl, HO.out⟩
end Go.Proofs.Ythkongkbefpilaa
