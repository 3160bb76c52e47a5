/-
  The reference's hold (slipwayref19): Seal (under way: the open hold is not walked yet).
-/
import Derived.Test.YthkongkbefpilaaDoorHv
namespace Go.Proofs.YthkongkbefpilaaDoor
set_option maxRecDepth 100000
open Go.RowKit Sha

section
variable {B : Nat} {w w1 w2 : World} {F : Nat → Prop} {x : Nat} {v : Value} {s : HS}
theorem HS.rcells_seal (s : HS) (v : Value) (b : Bool) (hw : s.want.length = 32) : (s.rcells v).set 34 (.bool b) = { s with shut := b }.rcells v := by
  unfold HS.rcells
  have h32 : (BC s.want).length = 32 := by rw [BC_length, hw]
  show v :: _ :: ((BC s.want ++ [Value.bool s.shut]).set 32 _) = _
  rw [List.set_append_right _ _ (by omega), h32]
  rfl
theorem RefAt.sealTo (h : RefAt B w F x v s) (hI : IsRef B w F x s) (h1 : Only Nil w w1) (b : Bool) : DidR B w F x { s with shut := b } (w1.setCell ⟨x, 34, none⟩ (.bool b)) := by
  have h' := h.only h1 fun _ _ e => e
  have ho : Only (One x) w1 (w1.setCell ⟨x, 34, none⟩ (.bool b)) := (Only.refl _ _).setCell (p := ⟨x, 34, none⟩) (.inl (One.self x)) _
  have hF : Only F w (w1.setCell ⟨x, 34, none⟩ (.bool b)) := (h1.mono (T := F) fun _ _ e => e.elim).setCell (p := ⟨x, 34, none⟩) (.inl h.foot.1) _
  have b2 : Blk (w1.setCell ⟨x, 34, none⟩ (.bool b)) x 59 ({ s with shut := b }.rcells v) := by
    have := h'.blk.set 34 (.bool b)
    rwa [s.rcells_seal v b h.ok.want] at this
  exact hI.did (v := v) ⟨b2, own_only h'.row ho fun k hk e => ownN_far h'.row h'.blk (by decide) (by rw [hk, show k = x from e]), ⟨.inl h.foot.1, fun k hk => .inl (h.foot.2 k hk)⟩, ⟨h.ok.want, h.ok.room, h.ok.most⟩⟩ hF
theorem rSeal_shut (h : IsRef B w F x s) (h0 : s.shut = true) : Calls Tryd.prog 28 #[.pointer (some ⟨x, 0, none⟩)] w fun e w' => e = .returned (.tuple #[.bool false, .int .i64 190]) ∧ DidR B w F x s w' := by
  obtain ⟨v, hA⟩ := h.at'
  have c34 := hA.c34
  rw [h0] at c34
  have HN := Lib.hid (DidR.nil h (Only.refl Nil w))
  clear hA h h0
  go_enter Tryd.func28, Tryd.ntmps28
  go_wp2
  go_ret2
  exact ⟨rfl, HN.out⟩
end
end Go.Proofs.YthkongkbefpilaaDoor
