/-
  SHA-256 in plain Lean, as the program's text has it: words, the schedule, a block's rounds, blocks of a text.
-/
namespace Go.Proofs.Ytgjkobokffiajaa
/-- A word turned right. -/
def rotr (x : UInt32) (k : Nat) : UInt32 := x <<< UInt32.ofNat (32 - k) ||| x >>> UInt32.ofNat k
/-- A byte more at a word's low end. -/
def byteIn (x : UInt32) (b : UInt8) : UInt32 := x <<< UInt32.ofNat 8 ||| b.toUInt32
/-- The first j of the bytes of word i of a block. -/
def wordPart (b : List UInt8) (i j : Nat) : UInt32 := ((b.drop (4 * i)).take j).foldl byteIn 0
def words (b : List UInt8) (n : Nat) : List UInt32 := (List.range n).map fun i => wordPart b i 4
/-- The word that comes behind 16 or more. -/
def ext (ws : List UInt32) : UInt32 :=
  let x := ws.getD (ws.length - 15) 0
  let y := ws.getD (ws.length - 2) 0
  (rotr y 17 ^^^ rotr y 19 ^^^ y >>> UInt32.ofNat 10) + ws.getD (ws.length - 7) 0 + (rotr x 7 ^^^ rotr x 18 ^^^ x >>> UInt32.ofNat 3) + ws.getD (ws.length - 16) 0
def grow (ws : List UInt32) : Nat → List UInt32
  | 0 => ws
  | n + 1 => grow ws n ++ [ext (grow ws n)]
def sched (b : List UInt8) : List UInt32 := grow (words b 16) 48
theorem words_length (b : List UInt8) (n : Nat) : (words b n).length = n := by simp [words]
theorem words_succ (b : List UInt8) (n : Nat) : words b (n + 1) = words b n ++ [wordPart b n 4] := by simp [words, List.range_succ]
theorem grow_length (ws : List UInt32) : ∀ n, (grow ws n).length = ws.length + n
  | 0 => rfl
  | n + 1 => by simp [grow, grow_length ws n]; omega
theorem sched_length (b : List UInt8) : (sched b).length = 64 := by simp [sched, grow_length, words_length]
theorem wordPart_zero (b : List UInt8) (i : Nat) : wordPart b i 0 = 0 := by simp [wordPart]
theorem wordPart_succ (b : List UInt8) (i j : Nat) (h : 4 * i + j < b.length) : wordPart b i (j + 1) = byteIn (wordPart b i j) (b[4 * i + j]) := by
  unfold wordPart
  rw [List.take_succ_eq_append_getElem (by simp; omega), List.foldl_append]
  simp
theorem words_zero (b : List UInt8) : words b 0 = [] := rfl
theorem grow_zero (ws : List UInt32) : grow ws 0 = ws := rfl
attribute [irreducible] rotr byteIn wordPart words ext grow sched
/-- Eight words. -/
structure St where
  (a b c d e f g h : UInt32)
def St.l (s : St) : List UInt32 := [s.a, s.b, s.c, s.d, s.e, s.f, s.g, s.h]
def pOf (s : St) (k w : UInt32) : UInt32 := s.h + (rotr s.e 6 ^^^ rotr s.e 11 ^^^ rotr s.e 25) + (s.e &&& s.f ||| ~~~ s.e &&& s.g) + k + w
def qOf (s : St) : UInt32 := (rotr s.a 2 ^^^ rotr s.a 13 ^^^ rotr s.a 22) + (s.a &&& s.b ||| s.a &&& s.c ||| s.b &&& s.c)
def St.step (s : St) (k w : UInt32) : St := ⟨pOf s k w + qOf s, s.a, s.b, s.c, s.d + pOf s k w, s.e, s.f, s.g⟩
def rounds (s : St) (ks ws : List UInt32) : Nat → St
  | 0 => s
  | n + 1 => (rounds s ks ws n).step (ks.getD n 0) (ws.getD n 0)
def St.add (s t : St) : St := ⟨s.a + t.a, s.b + t.b, s.c + t.c, s.d + t.d, s.e + t.e, s.f + t.f, s.g + t.g, s.h + t.h⟩
def K256 : List UInt32 := [0x428a2f98, 0x71374491, 0xb5c0fbcf, 0xe9b5dba5, 0x3956c25b, 0x59f111f1, 0x923f82a4, 0xab1c5ed5, 0xd807aa98, 0x12835b01, 0x243185be, 0x550c7dc3, 0x72be5d74, 0x80deb1fe, 0x9bdc06a7, 0xc19bf174, 0xe49b69c1, 0xefbe4786, 0x0fc19dc6, 0x240ca1cc, 0x2de92c6f, 0x4a7484aa, 0x5cb0a9dc, 0x76f988da, 0x983e5152, 0xa831c66d, 0xb00327c8, 0xbf597fc7, 0xc6e00bf3, 0xd5a79147, 0x06ca6351, 0x14292967, 0x27b70a85, 0x2e1b2138, 0x4d2c6dfc, 0x53380d13, 0x650a7354, 0x766a0abb, 0x81c2c92e, 0x92722c85, 0xa2bfe8a1, 0xa81a664b, 0xc24b8b70, 0xc76c51a3, 0xd192e819, 0xd6990624, 0xf40e3585, 0x106aa070, 0x19a4c116, 0x1e376c08, 0x2748774c, 0x34b0bcb5, 0x391c0cb3, 0x4ed8aa4a, 0x5b9cca4f, 0x682e6ff3, 0x748f82ee, 0x78a5636f, 0x84c87814, 0x8cc70208, 0x90befffa, 0xa4506ceb, 0xbef9a3f7, 0xc67178f2]
def H256 : St := ⟨0x6a09e667, 0xbb67ae85, 0x3c6ef372, 0xa54ff53a, 0x510e527f, 0x9b05688c, 0x1f83d9ab, 0x5be0cd19⟩
/-- A block taken in. -/
def compress (s : St) (b : List UInt8) : St := s.add (rounds s K256 (sched b) 64)
/-- Whole blocks taken in, so many. -/
def eat : Nat → St → List UInt8 → St × List UInt8
  | 0, s, l => (s, l)
  | n + 1, s, l => eat n (compress s (l.take 64)) (l.drop 64)
def eatAll (s : St) (l : List UInt8) : St × List UInt8 := eat (l.length / 64) s l
theorem eatAll_small (s : St) (l : List UInt8) (h : l.length < 64) : eatAll s l = (s, l) := by
  unfold eatAll; rw [Nat.div_eq_of_lt h]; rfl
theorem eatAll_step (s : St) (l : List UInt8) (h : 64 ≤ l.length) : eatAll s l = eatAll (compress s (l.take 64)) (l.drop 64) := by
  unfold eatAll
  rw [List.length_drop, show l.length / 64 = (l.length - 64) / 64 + 1 by omega]
  rfl
theorem eat_append : ∀ (n : Nat) (s : St) (l m : List UInt8), 64 * n ≤ l.length → eat n s (l ++ m) = ((eat n s l).1, (eat n s l).2 ++ m)
  | 0, s, l, m, _ => rfl
  | n + 1, s, l, m, h => by
    unfold eat
    rw [List.take_append_of_le_length (by omega), List.drop_append_of_le_length (by omega)]
    exact eat_append n _ _ _ (by simp; omega)
theorem eat_length : ∀ (n : Nat) (s : St) (l : List UInt8), (eat n s l).2.length = l.length - 64 * n
  | 0, s, l => by simp [eat]
  | n + 1, s, l => by
    unfold eat
    rw [eat_length n, List.length_drop]
    omega
theorem eat_add : ∀ (m n : Nat) (s : St) (l : List UInt8), eat (m + n) s l = eat n (eat m s l).1 (eat m s l).2
  | 0, n, s, l => by simp [eat]
  | m + 1, n, s, l => by
    rw [show m + 1 + n = (m + n) + 1 by omega]
    show eat (m + n) (compress s (l.take 64)) (l.drop 64) = _
    rw [eat_add m n]
    rfl
/-- What is written behind what was written. -/
theorem eatAll_append (s : St) (l m : List UInt8) : eatAll (eatAll s l).1 ((eatAll s l).2 ++ m) = eatAll s (l ++ m) := by
  have hl := eat_length (l.length / 64) s l
  have h : (eatAll s l).2.length = l.length % 64 := by unfold eatAll; rw [hl]; omega
  have e : (l ++ m).length / 64 = l.length / 64 + (l.length % 64 + m.length) / 64 := by simp; omega
  conv => rhs; unfold eatAll
  rw [e, eat_add, eat_append _ _ _ _ (by omega)]
  show eat (((eatAll s l).2 ++ m).length / 64) _ _ = _
  rw [List.length_append, h]
  rfl
theorem eatAll_length (s : St) (l : List UInt8) : (eatAll s l).2.length = l.length % 64 := by
  unfold eatAll; rw [eat_length]; omega
theorem St.l_length (s : St) : s.l.length = 8 := rfl
/-- The padding behind a message: r bytes wait, n were written. -/
def zerosFor (r : Nat) : Nat := (64 - (r + 9) % 64) % 64
def lenByte (n i : Nat) : UInt8 := UInt8.ofNat (n * 8 / 2 ^ (8 * i))
def lenBytes (n k : Nat) : List UInt8 := (List.range k).map fun t => lenByte n (7 - t)
theorem lenBytes_length (n k : Nat) : (lenBytes n k).length = k := by simp [lenBytes]
theorem lenBytes_succ (n k : Nat) : lenBytes n (k + 1) = lenBytes n k ++ [lenByte n (7 - k)] := by simp [lenBytes, List.range_succ]
def padZ (j : Nat) : List UInt8 := 0x80 :: List.replicate j 0
theorem padZ_length (j : Nat) : (padZ j).length = j + 1 := by simp [padZ]
theorem padZ_succ (j : Nat) : padZ (j + 1) = padZ j ++ [0] := by simp [padZ, List.replicate_succ']
def pad (r n : Nat) : List UInt8 := padZ (zerosFor r) ++ lenBytes n 8
theorem pad_length (r n : Nat) : (pad r n).length = zerosFor r + 9 := by simp [pad, padZ_length, lenBytes_length]
def outByte (s : St) (i : Nat) : UInt8 := (s.l.getD (i / 4) 0 >>> UInt32.ofNat (24 - 8 * (i % 4))).toUInt8
def outs (s : St) (k : Nat) : List UInt8 := (List.range k).map (outByte s)
theorem outs_length (s : St) (k : Nat) : (outs s k).length = k := by simp [outs]
theorem outs_succ (s : St) (k : Nat) : outs s (k + 1) = outs s k ++ [outByte s k] := by simp [outs, List.range_succ]
end Go.Proofs.Ytgjkobokffiajaa
