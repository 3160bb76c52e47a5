/-
  The digest in plain Lean: the words of a block, a round, what a block does to the eight words, the digest of bytes; and what a list of written bytes is to a hash under way. No program, no memory.
-/
namespace Go.Proofs.YthkongkbefpilaaDoor.Sha
def rotr (x : BitVec 32) (n : Nat) : BitVec 32 := (x <<< (32 - n)) ||| (x >>> n)
theorem rotr_or (x : BitVec 32) (n : Nat) : (x >>> n) ||| (x <<< (32 - n)) = rotr x n := BitVec.or_comm _ _
def pack (a b c d : BitVec 32) : BitVec 32 := a <<< 24 ||| b <<< 16 ||| c <<< 8 ||| d
def bwd (c : UInt8) : BitVec 32 := BitVec.ofNat 32 c.toNat
def packAt (l : List UInt8) (t : Nat) : BitVec 32 := pack (bwd (l.getD (4 * t) 0)) (bwd (l.getD (4 * t + 1) 0)) (bwd (l.getD (4 * t + 2) 0)) (bwd (l.getD (4 * t + 3) 0))
def sig0 (x : BitVec 32) : BitVec 32 := rotr x 7 ^^^ rotr x 18 ^^^ x >>> 3
def sig1 (y : BitVec 32) : BitVec 32 := rotr y 17 ^^^ rotr y 19 ^^^ y >>> 10
def nextOf (x2 x7 x15 x16 : BitVec 32) : BitVec 32 := sig1 x2 + x7 + sig0 x15 + x16
def next (w : List (BitVec 32)) (t : Nat) : BitVec 32 := nextOf (w.getD (t - 2) 0) (w.getD (t - 7) 0) (w.getD (t - 15) 0) (w.getD (t - 16) 0)
/-- The first t words of a block's schedule. -/
def wordsTo (l : List UInt8) : Nat → List (BitVec 32)
  | 0 => []
  | t + 1 => wordsTo l t ++ [if t < 16 then packAt l t else next (wordsTo l t) t]
theorem wordsTo_length (l : List UInt8) (t : Nat) : (wordsTo l t).length = t := by
  induction t with
  | zero => rfl
  | succ t ih => simp [wordsTo, ih]
theorem wordsTo_low (l : List UInt8) (t : Nat) (h : t < 16) : wordsTo l (t + 1) = wordsTo l t ++ [packAt l t] := by simp [wordsTo, h]
theorem wordsTo_high (l : List UInt8) (t : Nat) (h : 16 ≤ t) : wordsTo l (t + 1) = wordsTo l t ++ [next (wordsTo l t) t] := by simp [wordsTo, show ¬ t < 16 by omega]
/-- The words so far in an array of 64, zeros behind them. -/
def room (l : List (BitVec 32)) : List (BitVec 32) := l ++ List.replicate (64 - l.length) 0
theorem room_length (l : List (BitVec 32)) (h : l.length ≤ 64) : (room l).length = 64 := by simp [room]; omega
theorem room_get (l : List (BitVec 32)) (i : Nat) (h : i < l.length) : (room l).getD i 0 = l.getD i 0 := by
  simp [room, List.getD, List.getElem?_append_left h]
theorem room_set (l : List (BitVec 32)) (x : BitVec 32) (h : l.length < 64) : (room l).set l.length x = room (l ++ [x]) := by
  unfold room
  obtain ⟨m, hm⟩ : ∃ m, 64 - l.length = m + 1 := ⟨64 - l.length - 1, by omega⟩
  rw [List.set_append_right _ _ (Nat.le_refl _), hm, Nat.sub_self, List.replicate_succ, List.set_cons_zero, List.length_append, List.length_singleton, show 64 - (l.length + 1) = m by omega]
  simp
theorem room_full (l : List (BitVec 32)) (h : l.length = 64) : room l = l := by simp [room, h]
structure S8 where
  a : BitVec 32
  b : BitVec 32
  c : BitVec 32
  d : BitVec 32
  e : BitVec 32
  f : BitVec 32
  g : BitVec 32
  z : BitVec 32
def S8.list (s : S8) : List (BitVec 32) := [s.a, s.b, s.c, s.d, s.e, s.f, s.g, s.z]
theorem S8.list_inj {s t : S8} (h : s.list = t.list) : s = t := by
  cases s; cases t
  simp only [S8.list, List.cons.injEq, and_true] at h
  obtain ⟨rfl, rfl, rfl, rfl, rfl, rfl, rfl, rfl⟩ := h
  rfl
def uOf (s : S8) (k w : BitVec 32) : BitVec 32 := s.z + (rotr s.e 6 ^^^ rotr s.e 11 ^^^ rotr s.e 25) + (s.e &&& s.f ^^^ ~~~s.e &&& s.g) + k + w
def vOf (s : S8) : BitVec 32 := (rotr s.a 2 ^^^ rotr s.a 13 ^^^ rotr s.a 22) + (s.a &&& s.b ^^^ s.a &&& s.c ^^^ s.b &&& s.c)
def step (k w : BitVec 32) (s : S8) : S8 := ⟨uOf s k w + vOf s, s.a, s.b, s.c, s.d + uOf s k w, s.e, s.f, s.g⟩
def K : List (BitVec 32) := [
  0x428a2f98, 0x71374491, 0xb5c0fbcf, 0xe9b5dba5, 0x3956c25b, 0x59f111f1, 0x923f82a4, 0xab1c5ed5,
  0xd807aa98, 0x12835b01, 0x243185be, 0x550c7dc3, 0x72be5d74, 0x80deb1fe, 0x9bdc06a7, 0xc19bf174,
  0xe49b69c1, 0xefbe4786, 0x0fc19dc6, 0x240ca1cc, 0x2de92c6f, 0x4a7484aa, 0x5cb0a9dc, 0x76f988da,
  0x983e5152, 0xa831c66d, 0xb00327c8, 0xbf597fc7, 0xc6e00bf3, 0xd5a79147, 0x06ca6351, 0x14292967,
  0x27b70a85, 0x2e1b2138, 0x4d2c6dfc, 0x53380d13, 0x650a7354, 0x766a0abb, 0x81c2c92e, 0x92722c85,
  0xa2bfe8a1, 0xa81a664b, 0xc24b8b70, 0xc76c51a3, 0xd192e819, 0xd6990624, 0xf40e3585, 0x106aa070,
  0x19a4c116, 0x1e376c08, 0x2748774c, 0x34b0bcb5, 0x391c0cb3, 0x4ed8aa4a, 0x5b9cca4f, 0x682e6ff3,
  0x748f82ee, 0x78a5636f, 0x84c87814, 0x8cc70208, 0x90befffa, 0xa4506ceb, 0xbef9a3f7, 0xc67178f2]
theorem K_length : K.length = 64 := rfl
/-- The eight words behind t rounds over a block's words. -/
def rounds (w : List (BitVec 32)) (s : S8) : Nat → S8
  | 0 => s
  | t + 1 => step (K.getD t 0) (w.getD t 0) (rounds w s t)
def S8.add (s t : S8) : S8 := ⟨s.a + t.a, s.b + t.b, s.c + t.c, s.d + t.d, s.e + t.e, s.f + t.f, s.g + t.g, s.z + t.z⟩
/-- .. word by word: i words are added. -/
def addTo (s t : S8) (i : Nat) : List (BitVec 32) := (s.add t).list.take i ++ s.list.drop i
theorem addTo_zero (s t : S8) : addTo s t 0 = s.list := rfl
theorem addTo_all (s t : S8) : addTo s t 8 = (s.add t).list := rfl
theorem addTo_length (s t : S8) (i : Nat) (h : i ≤ 8) : (addTo s t i).length = 8 := by simp [addTo, S8.list]; omega
theorem addTo_get (s t : S8) (i : Nat) (h : i < 8) : (addTo s t i).getD i 0 = s.list.getD i 0 := by
  match i, h with
  | 0, _ => rfl
  | 1, _ => rfl
  | 2, _ => rfl
  | 3, _ => rfl
  | 4, _ => rfl
  | 5, _ => rfl
  | 6, _ => rfl
  | 7, _ => rfl
theorem addTo_set (s t : S8) (i : Nat) (h : i < 8) : (addTo s t i).set i (s.list.getD i 0 + t.list.getD i 0) = addTo s t (i + 1) := by
  match i, h with
  | 0, _ => rfl
  | 1, _ => rfl
  | 2, _ => rfl
  | 3, _ => rfl
  | 4, _ => rfl
  | 5, _ => rfl
  | 6, _ => rfl
  | 7, _ => rfl
/-- What a block of 64 bytes makes of the eight words. -/
def gone (s : S8) (l : List UInt8) : S8 := s.add (rounds (wordsTo l 64) s 64)
def start : S8 := ⟨0x6a09e667, 0xbb67ae85, 0x3c6ef372, 0xa54ff53a, 0x510e527f, 0x9b05688c, 0x1f83d9ab, 0x5be0cd19⟩
/-- Block number k of bytes. -/
def blockAt (l : List UInt8) (k : Nat) : List UInt8 := (l.drop (64 * k)).take 64
/-- The eight words behind k blocks of bytes. -/
def after (l : List UInt8) : Nat → S8
  | 0 => start
  | k + 1 => gone (after l k) (blockAt l k)
/-- .. behind all whole blocks; what stands behind these. -/
def state (l : List UInt8) : S8 := after l (l.length / 64)
def rest (l : List UInt8) : List UInt8 := l.drop (64 * (l.length / 64))
theorem rest_length (l : List UInt8) : (rest l).length = l.length % 64 := by simp [rest]; omega
theorem after_append (l m : List UInt8) (k : Nat) (h : 64 * k ≤ l.length) : after (l ++ m) k = after l k := by
  induction k with
  | zero => rfl
  | succ k ih =>
    have hb : blockAt (l ++ m) k = blockAt l k := by
      unfold blockAt
      rw [List.drop_append_of_le_length (by omega), List.take_append_of_le_length (by simp; omega)]
    rw [after, after, ih (by omega), hb]
theorem state_nil : state [] = start := rfl
theorem rest_nil : rest [] = [] := rfl
/-- Fewer bytes than make a block whole: the words stay, the rest grows. -/
theorem state_part (l m : List UInt8) (h : l.length % 64 + m.length < 64) : state (l ++ m) = state l := by
  unfold state
  rw [List.length_append, show (l.length + m.length) / 64 = l.length / 64 by omega, after_append _ _ _ (by omega)]
theorem rest_part (l m : List UInt8) (h : l.length % 64 + m.length < 64) : rest (l ++ m) = rest l ++ m := by
  unfold rest
  rw [List.length_append, show (l.length + m.length) / 64 = l.length / 64 by omega, List.drop_append_of_le_length (by omega)]
/-- Just as many as make a block whole. -/
theorem state_whole (l m : List UInt8) (h : l.length % 64 + m.length = 64) : state (l ++ m) = gone (state l) (rest l ++ m) := by
  unfold state rest
  have hk : (l ++ m).length / 64 = l.length / 64 + 1 := by rw [List.length_append]; omega
  rw [hk, after, after_append _ _ _ (by omega)]
  congr 1
  unfold blockAt
  rw [List.drop_append_of_le_length (by omega), List.take_of_length_le (by simp; omega)]
theorem rest_whole (l m : List UInt8) (h : l.length % 64 + m.length = 64) : rest (l ++ m) = [] := by
  unfold rest
  rw [List.length_append, show (l.length + m.length) / 64 = l.length / 64 + 1 by omega]
  apply List.drop_eq_nil_of_le
  simp
  omega
/-- The bytes behind the last one: 80, zeros, the number of bits in eight bytes. -/
def zeros (n : Nat) : Nat := (119 - n % 64) % 64
def size8 (n : Nat) : List UInt8 := (List.range 8).map fun i => UInt8.ofNat (8 * n / 2 ^ (56 - 8 * i))
def tail (n : Nat) : List UInt8 := 0x80 :: List.replicate (zeros n) 0 ++ size8 n
def byteOf (s : S8) (i : Nat) : UInt8 := UInt8.ofNat ((s.list.getD (i / 4) 0).toNat / 2 ^ (24 - 8 * (i % 4)))
def outOf (s : S8) : List UInt8 := (List.range 32).map (byteOf s)
/-- The digest. -/
def sha (l : List UInt8) : List UInt8 := outOf (state (l ++ tail l.length))
theorem sha_length (l : List UInt8) : (sha l).length = 32 := by simp [sha, outOf]
theorem tail_length (n : Nat) : (tail n).length = zeros n + 9 := by simp [tail, size8]
end Go.Proofs.YthkongkbefpilaaDoor.Sha
