/-
  A slice of bytes that comes in, with its reading's length.
-/
import Derived.Test.YtkkjnembjlgiaaaRow
import Derived.SizedLaws
namespace Go.Proofs.Ytkkjnembjlgiaaa
open Go.ChangeShapes Go.WideShapes Go.ChangeAt Go.RowKit

section
variable {H : Type} {enc : TypeId × Value → H} {P : Program} {w : World} {base : Nat} {spare : Nat → Bool} {held : Bool}
theorem rb_of_trod2 {t e : TypeId} {fuel : Nat} {v : Value} {x : DataW H × List MemPlace} (ht : P.underlying t = some (.slice e)) (he : P.underlying e = some (.int .u8)) (hc : P.cellsOf e = 1)
    (h : DataW.trod enc P w base spare held fuel t [v] = some x) : ∃ bs, RB w v bs ∧ (bs = [] ∨ ∃ es sp, x.1 = .slice es sp ∧ es.length = bs.length) := by
  rcases open_ints ht he hc h with ⟨hcs, _⟩ | ⟨a, len, cap, zs, hcs, _, hl, hm, hz, hx, hcell, hwz⟩
  · obtain rfl : v = .slice none 0 0 := by simpa using hcs
    exact ⟨[], RB.nil _ _ _, .inl rfl⟩
  · obtain rfl : v = .slice (some a) len cap := by simpa using hcs
    obtain ⟨bs, rfl⟩ := bytes_of_ints zs hwz
    have hzl : len ≤ bs.length := by
      rw [List.length_map] at hz
      rw [hz]
      split <;> omega
    have hbl : (bs.take len).length = len := by rw [List.length_take]; omega
    refine ⟨bs.take len, ⟨some a, cap, by rw [hbl], by rw [hbl]; exact hl, fun h0 => ?_⟩, .inr ⟨_, _, by rw [hx], ?_⟩⟩
    · rw [hbl] at h0
      obtain ⟨b, off, rfl, hat⟩ := ints_at hcell (by rw [List.length_map]; omega)
      refine ⟨b, off, rfl, fun j hj => ?_⟩
      rw [hbl] at hj
      have := hat j (by rw [List.length_map]; omega)
      rw [this]
      congr 2
      simp [List.getD, List.getElem?_take_of_lt hj, List.getElem?_eq_getElem (show j < bs.length by omega)]
    · simp [lits]
theorem open_rb2 {r : Reach} {b0 : Nat} {t e : TypeId} {v : Value} {d : DataW H} {ps : List MemPlace} (ht : P.underlying t = some (.slice e)) (he : P.underlying e = some (.int .u8)) (hc : P.cellsOf e = 1)
    (hval : Value.okWide P w r b0 t v) (h : DataW.Trod enc P w base spare held t v d ps) : ∃ bs, RB w v bs ∧ (bs = [] ∨ ∃ es sp, d = .slice es sp ∧ es.length = bs.length) := by
  obtain ⟨a0, len, cap, rfl⟩ := okWide_slice ht hval
  obtain ⟨fuel, hf⟩ := h
  exact rb_of_trod2 ht he hc hf
end
end Go.Proofs.Ytkkjnembjlgiaaa
