/-
  WirePlays: stands (1): all lists still read as they came, all frames go into the book (lemmas).
-/
import Derived.Test.YtkkjnembjlgiaaaVn
namespace Go.Proofs.Ytkkjnembjlgiaaa
set_option maxRecDepth 100000
open Go.RowKit

def ke0 : Ke := ⟨.slice none 0 0, [], .slice none 0 0, []⟩
/-- The frames of the first i lists, and p of the next one. -/
def taken (ks : List Ke) (i p : Nat) : List Wy := (ks.take i).flatMap Ke.es ++ (ks.getD i ke0).es.take p
section
variable {B : Nat} {W W' W1 W2 : World} {c : Nat → Nat} {kb bk i p : Nat} {vl vw : Value} {ks : List Ke}
theorem taken_zero (ks : List Ke) (i : Nat) : taken ks i 0 = (ks.take i).flatMap Ke.es := by simp [taken]
theorem getD_of {l : List Wy} (h : p < l.length) : l.getD p wy0 = l[p] := by simp [List.getD, h]
theorem take_succ_of {l : List Wy} (h : p < l.length) : l.take (p + 1) = l.take p ++ [l.getD p wy0] := by
  rw [List.take_add_one, List.getElem?_eq_getElem h, getD_of h]
  rfl
theorem taken_succ (hp : p < (ks.getD i ke0).es.length) : taken ks i (p + 1) = taken ks i p ++ [(ks.getD i ke0).es.getD p wy0] := by
  unfold taken
  rw [take_succ_of hp, List.append_assoc]
theorem taken_next (hi : i < ks.length) : taken ks (i + 1) 0 = taken ks i (ks.getD i ke0).es.length := by
  unfold taken
  rw [List.take_zero, List.append_nil, List.take_length, List.take_add_one, List.getElem?_eq_getElem hi, List.flatMap_append]
  simp [List.getD, hi]
theorem taken_all : taken ks ks.length 0 = ks.flatMap Ke.es := by rw [taken_zero, List.take_length]
theorem taken_far (hf : (ks.flatMap Ke.es).Pairwise Far) (hi : i < ks.length) (hp : p < (ks.getD i ke0).es.length) : ∀ y ∈ taken ks i p, Far y ((ks.getD i ke0).es.getD p wy0) := by
  have e : ks.flatMap Ke.es = taken ks i p ++ ((ks.getD i ke0).es.getD p wy0 :: ((ks.getD i ke0).es.drop (p + 1) ++ (ks.drop (i + 1)).flatMap Ke.es)) := by
    have e1 : ks = ks.take i ++ ks.getD i ke0 :: ks.drop (i + 1) := by
      have : ks.getD i ke0 = ks[i] := by simp [List.getD, hi]
      rw [this, ← List.drop_eq_getElem_cons hi, List.take_append_drop]
    have e2 : (ks.getD i ke0).es = (ks.getD i ke0).es.take p ++ (ks.getD i ke0).es.getD p wy0 :: (ks.getD i ke0).es.drop (p + 1) := by
      rw [getD_of hp, ← List.drop_eq_getElem_cons hp, List.take_append_drop]
    generalize hE : ks.getD i ke0 = E at *
    have e3 : ks.flatMap Ke.es = (ks.take i).flatMap Ke.es ++ (E.es ++ (ks.drop (i + 1)).flatMap Ke.es) := by
      conv => lhs; rw [e1]
      rw [List.flatMap_append, List.flatMap_cons]
    rw [e3]
    unfold taken
    rw [hE]
    conv => lhs; rw [e2]
    simp
  rw [e, List.pairwise_append] at hf
  exact fun y hy => hf.2.2 y hy _ (List.mem_cons_self ..)
theorem taken_mem : ∀ y ∈ taken ks i p, ∃ e ∈ ks, y ∈ e.es := by
  intro y hy
  rcases List.mem_append.1 hy with hy | hy
  · obtain ⟨e, he, hy⟩ := List.mem_flatMap.1 hy
    exact ⟨e, List.mem_of_mem_take he, hy⟩
  · have hy' := List.mem_of_mem_take hy
    by_cases hi : i < ks.length
    · refine ⟨ks.getD i ke0, ?_, hy'⟩
      rw [List.getD, List.getElem?_eq_getElem hi]
      exact List.getElem_mem hi
    · rw [List.getD, List.getElem?_eq_none (by omega)] at hy'
      cases hy'
/-- The frames T lie in the book. -/
structure Taken (B : Nat) (W : World) (c : Nat → Nat) (bk : Nat) (T : List Wy) (W' : World) : Prop where
  book : ∃ F, IsBook B W' F bk (T.map fun y => (y.d, y.bs)) ∧ ∀ k, F k → c k = 6 ∨ Frs T k ∨ W.heap.size ≤ k
  only : Only (fun k => c k = 6 ∨ Frs T k) W W'
theorem Taken.nil {T : List Wy} (h : Taken B W c bk T W1) (ho : Only Nil W1 W2) : Taken B W c bk T W2 := by
  obtain ⟨⟨F, hF, h1⟩, h2⟩ := h
  exact ⟨⟨F, hF.only ho fun _ _ e => e, h1⟩, h2.then (ho.mono fun _ _ e => e.elim)⟩
theorem Taken.start (h : Kept B W c kb bk ks) : Taken B W c bk [] W := by
  obtain ⟨_, ⟨F, hF, h1⟩, _⟩ := h
  exact ⟨⟨F, hF, fun k hk => .inl (h1 k hk)⟩, Only.refl _ _⟩
/-- What is no frame stays. -/
theorem KeptAt.stays {T : List Wy} (hA : KeptAt B W c kb bk vl vw ks) (hT : ∀ y ∈ T, ∃ e ∈ ks, y ∈ e.es) (ht : Taken B W c bk T W') {t : TypeId} {cs : List Value} {k : Nat} (hb : Blk W k t cs) (h1 : t ≠ 5) (h2 : c k ≠ 6) : Blk W' k t cs :=
  ht.only.blk hb fun h => h.elim h2 fun ⟨y, hy, hk⟩ => by
    obtain ⟨e, he, hye⟩ := hT y hy
    obtain ⟨cs', hb'⟩ := blk_of_own (hA.frames e he y hye) hk
    exact h1 (blk_type hb hb')
theorem KeptAt.row {T : List Wy} (hA : KeptAt B W c kb bk vl vw ks) (hT : ∀ y ∈ T, ∃ e ∈ ks, y ∈ e.es) (ht : Taken B W c bk T W') {t : TypeId} {v : Value} {n : Nat} {xs : List Value} (hr : W.ownsRow B t 1 v n xs) (h1 : t ≠ 5) (h2 : ∀ k, v.ownBlock = some k → c k = 5 ∨ c k = 7) : W'.ownsRow B t 1 v n xs :=
  own_only hr ht.only fun k hk e => e.elim (fun e => by have := h2 k hk; omega) fun ⟨y, hy, hk'⟩ => by
    obtain ⟨e', he, hye⟩ := hT y hy
    obtain ⟨cs', hb'⟩ := blk_of_own (hA.frames e' he y hye) hk'
    exact ownN_far hr hb' h1 hk
/-- The two lists, as they are read. -/
theorem KeptAt.parts (hA : KeptAt B W c kb bk vl vw ks) (hi : i < ks.length) (ht : Taken B W c bk (taken ks i 0) W') :
    Parts W' (ks.getD i ke0).l ((ks.getD i ke0).es.map Wy.d) ((ks.getD i ke0).es.map Wy.bs) ∧ Parts W' (ks.getD i ke0).m ((ks.getD i ke0).fs.map Wy.d) ((ks.getD i ke0).fs.map Wy.bs) := by
  have he : ks.getD i ke0 ∈ ks := by
    rw [List.getD, List.getElem?_eq_getElem hi]
    exact List.getElem_mem hi
  refine ⟨parts_of_rows (hA.row (fun y hy => taken_mem y hy) ht (hA.rows _ he) (by decide) fun k hk => .inl ((hA.footE _ he).1 k hk)) fun y hy => own_only (hA.frames _ he y hy) ht.only fun k hk e => ?_,
    parts_of_rows (hA.row (fun y hy => taken_mem y hy) ht (hA.rows2 _ he) (by decide) fun k hk => .inr ((hA.footE _ he).2.2.1 k hk)) fun y hy => own_only (hA.frames2 _ he y hy) ht.only fun k hk e => ?_⟩
  · have h5 := (hA.footE _ he).2.1 y hy k hk
    rcases e with e | ⟨z, hz, hk'⟩
    · omega
    · obtain ⟨p, hp, hpy⟩ := List.getElem_of_mem hy
      have e0 : taken ks i 0 = taken ks i 0 := rfl
      have hz' : z ∈ taken ks i p := by
        rw [taken_zero] at hz
        exact List.mem_append_left _ hz
      have hf := taken_far hA.far hi hp z hz'
      have e1 : (ks.getD i ke0).es.getD p wy0 = y := by rw [List.getD, List.getElem?_eq_getElem hp, hpy]; rfl
      rw [e1] at hf
      exact hf k hk' hk
  · have h7 := (hA.footE _ he).2.2.2 y hy k hk
    rcases e with e | ⟨z, hz, hk'⟩
    · omega
    · obtain ⟨e', he', hz'⟩ := taken_mem z hz
      have := (hA.footE _ he').2.1 z hz' k hk'
      omega
/-- One more is taken. -/
theorem Taken.step {y : Wy} (hA : KeptAt B W c kb bk vl vw ks) (hi : i < ks.length) (hp : p < (ks.getD i ke0).es.length) (hy : (ks.getD i ke0).es.getD p wy0 = y) (ht : Taken B W c bk (taken ks i p) W') (hn : (taken ks i p).length ≤ 100000000000) :
    Calls Try.prog 28 #[.pointer (some ⟨bk, 0, none⟩), y.d] W' fun e W2 => e = .returned (.tuple #[]) ∧ Taken B W c bk (taken ks i (p + 1)) W2 := by
  have he : ks.getD i ke0 ∈ ks := by
    rw [List.getD, List.getElem?_eq_getElem hi]
    exact List.getElem_mem hi
  have hye : y ∈ (ks.getD i ke0).es := by
    rw [← hy]
    exact getD_mem hp
  have hfar := taken_far hA.far hi hp
  rw [hy] at hfar
  obtain ⟨⟨F, hF, hF6⟩, ho⟩ := ht
  have hlow : ∀ k, y.d.ownBlock = some k → k < W.heap.size ∧ c k = 5 := fun k hk => ⟨(own_block (hA.frames _ he y hye) k hk).2, (hA.footE _ he).2.1 y hye k hk⟩
  have hnot : ∀ k, y.d.ownBlock = some k → ¬ Frs (taken ks i p) k := fun k hk ⟨z, hz, hk'⟩ => hfar z hz k hk' hk
  have hown : OwnB B W' y.d y.bs := own_only (hA.frames _ he y hye) ho fun k hk e => e.elim (fun e => by have := hlow k hk; omega) (hnot k hk)
  refine (take_any hF y.d y.bs hown (fun k hk e => ?_) (by rw [List.length_map]; exact hn)).mono fun e W2 ⟨e1, ho2, F', hF', hk'⟩ => ⟨e1, ⟨F', ?_, fun k hk => ?_⟩, ?_⟩
  · have := hlow k hk
    rcases hF6 k e with h | h | h
    · omega
    · exact hnot k hk h
    · omega
  · rw [taken_succ hp, hy, List.map_append]
    exact hF'
  · rw [taken_succ hp, hy]
    rcases hk' k hk with h | h | h
    · exact (hF6 k h).imp id fun h => h.imp (fun ⟨z, hz, e⟩ => ⟨z, List.mem_append_left _ hz, e⟩) id
    · exact .inr (.inl ⟨y, List.mem_append_right _ (List.mem_singleton.2 rfl), h⟩)
    · exact .inr (.inr (Nat.le_trans ho.size h))
  · rw [taken_succ hp, hy]
    exact (ho.mono (T := fun k => c k = 6 ∨ Frs (taken ks i p ++ [y]) k) fun k _ e => e.imp id fun ⟨z, hz, e⟩ => ⟨z, List.mem_append_left _ hz, e⟩).trans ho2 fun k hk => by
      rcases hF6 k hk with h | h | h
      · exact .inl (.inl h)
      · obtain ⟨z, hz, e⟩ := h
        exact .inl (.inr ⟨z, List.mem_append_left _ hz, e⟩)
      · exact .inr h
end
end Go.Proofs.Ytkkjnembjlgiaaa
