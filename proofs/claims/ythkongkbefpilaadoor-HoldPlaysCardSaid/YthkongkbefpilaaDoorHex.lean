/-
  Digests as text, in plain Lean: the digits, what a digit says, a digest's text and a text's digest. No program.
-/
namespace Go.Proofs.YthkongkbefpilaaDoor.Sha
def hi8 (x : UInt8) : UInt8 := UInt8.ofNat (x.toNat / 16)
def lo8 (x : UInt8) : UInt8 := UInt8.ofNat (x.toNat % 16)
def hexd (n : UInt8) : UInt8 := UInt8.ofNat (if n.toNat < 10 then 48 + n.toNat else 87 + n.toNat)
/-- A digit? -/
def isd (c : UInt8) : Bool := (48 ≤ c.toNat && c.toNat ≤ 57) || (97 ≤ c.toNat && c.toNat ≤ 102)
def halfV (c : UInt8) : UInt8 := UInt8.ofNat (if 48 ≤ c.toNat ∧ c.toNat ≤ 57 then c.toNat - 48 else if 97 ≤ c.toNat ∧ c.toNat ≤ 102 then c.toNat - 87 else 0)
/-- The text of bytes. -/
def hex (d : List UInt8) : List UInt8 := d.flatMap fun x => [hexd (hi8 x), hexd (lo8 x)]
/-- The bytes of a text: byte i. -/
def unAt (s : List UInt8) (i : Nat) : UInt8 := UInt8.ofNat ((halfV (s.getD (2 * i) 0)).toNat * 16 + (halfV (s.getD (2 * i + 1) 0)).toNat)
def okAt (s : List UInt8) (i : Nat) : Bool := isd (s.getD (2 * i) 0) && isd (s.getD (2 * i + 1) 0)
def okTo (s : List UInt8) (n : Nat) : Bool := (List.range n).all (okAt s)
def unhex (s : List UInt8) : List UInt8 := (List.range 32).map (unAt s)
/-- A text of a digest? -/
def isHex (s : List UInt8) : Bool := decide (s.length = 64) && okTo s 32
theorem toNat_ofNat (n : Nat) (h : n < 256) : (UInt8.ofNat n).toNat = n := by rw [UInt8.toNat_ofNat']; omega
theorem hi8_toNat (x : UInt8) : (hi8 x).toNat = x.toNat / 16 := toNat_ofNat _ (by have := x.toNat_lt; omega)
theorem lo8_toNat (x : UInt8) : (lo8 x).toNat = x.toNat % 16 := toNat_ofNat _ (by omega)
theorem hexd_toNat (x : UInt8) (h : x.toNat < 16) : (hexd x).toNat = if x.toNat < 10 then 48 + x.toNat else 87 + x.toNat := toNat_ofNat _ (by split <;> omega)
theorem halfV_lt (c : UInt8) : (halfV c).toNat < 16 := by
  unfold halfV
  rw [UInt8.toNat_ofNat']
  repeat' split
  all_goals omega
theorem halfV_hexd (x : UInt8) (h : x.toNat < 16) : halfV (hexd x) = x := by
  apply UInt8.toNat_inj.1
  have h1 := hexd_toNat x h
  unfold halfV
  rw [UInt8.toNat_ofNat']
  by_cases h10 : x.toNat < 10
  · rw [if_pos h10] at h1
    rw [if_pos (by omega)]
    omega
  · rw [if_neg h10] at h1
    rw [if_neg (by omega), if_pos (by omega)]
    omega
theorem isd_hexd (x : UInt8) (h : x.toNat < 16) : isd (hexd x) = true := by
  have h1 := hexd_toNat x h
  unfold isd
  by_cases h10 : x.toNat < 10
  · rw [if_pos h10] at h1
    simp
    omega
  · rw [if_neg h10] at h1
    simp
    omega
theorem hexd_halfV (c : UInt8) (h : isd c = true) : hexd (halfV c) = c := by
  apply UInt8.toNat_inj.1
  rw [hexd_toNat _ (halfV_lt c)]
  unfold isd at h
  simp only [Bool.or_eq_true, Bool.and_eq_true, decide_eq_true_eq] at h
  unfold halfV
  rw [UInt8.toNat_ofNat']
  rcases h with h | h
  · rw [if_pos h, if_pos (by omega)]
    omega
  · rw [if_neg (show ¬ (48 ≤ c.toNat ∧ c.toNat ≤ 57) by omega), if_pos h, if_neg (by omega)]
    omega
theorem hex_length (d : List UInt8) : (hex d).length = 2 * d.length := by
  induction d with
  | nil => rfl
  | cons x r ih => simp only [hex, List.flatMap_cons, List.length_append, List.length_cons, List.length_nil] at ih ⊢; omega
theorem hex_append (a b : List UInt8) : hex (a ++ b) = hex a ++ hex b := by simp [hex]
theorem hex_get (d : List UInt8) : ∀ (i : Nat), i < d.length → (hex d).getD (2 * i) 0 = hexd (hi8 (d.getD i 0)) ∧ (hex d).getD (2 * i + 1) 0 = hexd (lo8 (d.getD i 0)) := by
  induction d with
  | nil => intro i h; simp at h
  | cons x r ih =>
    intro i h
    cases i with
    | zero => exact ⟨rfl, rfl⟩
    | succ i =>
      have := ih i (by simpa using h)
      exact this
theorem hi8_lt (x : UInt8) : (hi8 x).toNat < 16 := by rw [hi8_toNat]; have := x.toNat_lt; omega
theorem lo8_lt (x : UInt8) : (lo8 x).toNat < 16 := by rw [lo8_toNat]; omega
theorem unAt_hex (d : List UInt8) (i : Nat) (h : i < d.length) : unAt (hex d) i = d.getD i 0 := by
  obtain ⟨h1, h2⟩ := hex_get d i h
  unfold unAt
  rw [h1, h2, halfV_hexd _ (hi8_lt _), halfV_hexd _ (lo8_lt _), hi8_toNat, lo8_toNat, show (d.getD i 0).toNat / 16 * 16 + (d.getD i 0).toNat % 16 = (d.getD i 0).toNat by omega]
  apply UInt8.toNat_inj.1
  rw [UInt8.toNat_ofNat']
  have := (d.getD i 0).toNat_lt
  omega
theorem okAt_hex (d : List UInt8) (i : Nat) (h : i < d.length) : okAt (hex d) i = true := by
  obtain ⟨h1, h2⟩ := hex_get d i h
  unfold okAt
  rw [h1, h2, isd_hexd _ (hi8_lt _), isd_hexd _ (lo8_lt _)]
  rfl
/-- There and back. -/
theorem unhex_hex (d : List UInt8) (h : d.length = 32) : isHex (hex d) = true ∧ unhex (hex d) = d := by
  constructor
  · unfold isHex okTo
    rw [hex_length, h]
    simp only [Bool.and_eq_true, decide_eq_true_eq, List.all_eq_true, List.mem_range]
    exact ⟨trivial, fun i hi => okAt_hex d i (by omega)⟩
  · unfold unhex
    apply List.ext_getElem?
    intro i
    by_cases hi : i < 32
    · rw [List.getElem?_map, List.getElem?_range hi, Option.map_some, unAt_hex d i (by omega), List.getD, List.getElem?_eq_getElem (show i < d.length by omega)]
      rfl
    · rw [List.getElem?_eq_none (show ((List.range 32).map (unAt (hex d))).length ≤ i by simp; omega), List.getElem?_eq_none (show d.length ≤ i by omega)]
/-- .. and back and there. -/
theorem hex_unhex (s : List UInt8) (h : isHex s = true) : hex (unhex s) = s := by
  unfold isHex okTo at h
  simp only [Bool.and_eq_true, decide_eq_true_eq, List.all_eq_true, List.mem_range] at h
  obtain ⟨hl, hok⟩ := h
  have hu : (unhex s).length = 32 := by simp [unhex]
  apply List.ext_getElem (by rw [hex_length, hu, hl])
  intro j hj1 hj2
  have hg : ∀ (l : List UInt8) (k : Nat) (hk : k < l.length), l[k] = l.getD k 0 := fun l k hk => by simp [List.getD, hk]
  rw [hg _ _ hj1, hg _ _ hj2]
  have hi : j / 2 < 32 := by omega
  obtain ⟨h1, h2⟩ := hex_get (unhex s) (j / 2) (by omega)
  have hq : (unhex s).getD (j / 2) 0 = unAt s (j / 2) := by simp [unhex, List.getD, hi]
  have hv := halfV_lt (s.getD (2 * (j / 2)) 0)
  have hw := halfV_lt (s.getD (2 * (j / 2) + 1) 0)
  have hn : (unAt s (j / 2)).toNat = (halfV (s.getD (2 * (j / 2)) 0)).toNat * 16 + (halfV (s.getD (2 * (j / 2) + 1) 0)).toNat := by
    unfold unAt
    exact toNat_ofNat _ (by omega)
  have hk := hok (j / 2) hi
  unfold okAt at hk
  simp only [Bool.and_eq_true] at hk
  rw [hq] at h1 h2
  rcases Nat.mod_two_eq_zero_or_one j with hm | hm
  · have ej : j = 2 * (j / 2) := by omega
    rw [ej, h1, show hi8 (unAt s (j / 2)) = halfV (s.getD (2 * (j / 2)) 0) from UInt8.toNat_inj.1 (by rw [hi8_toNat, hn]; omega), hexd_halfV _ hk.1]
  · have ej : j = 2 * (j / 2) + 1 := by omega
    rw [ej, h2, show lo8 (unAt s (j / 2)) = halfV (s.getD (2 * (j / 2) + 1) 0) from UInt8.toNat_inj.1 (by rw [lo8_toNat, hn]; omega), hexd_halfV _ hk.2]
end Go.Proofs.YthkongkbefpilaaDoor.Sha
