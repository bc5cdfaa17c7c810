/- A turn of a word by division and remainder is the turn by shifts. -/
import Derived.Test.YtgjkobokffiajaaShaSpec
namespace Go.Proofs.Ytgjkobokffiajaa
theorem rotr_div (x : UInt32) (k : Nat) (h0 : 0 < k) (hk : k < 32) : (rotr x k).toNat = x.toNat / 2 ^ k + x.toNat % 2 ^ k * 2 ^ (32 - k) := by
  have hx : x.toNat < 2 ^ 32 := x.toNat_lt
  have e1 : (UInt32.ofNat k).toNat % 32 = k := by simp; omega
  have e2 : (UInt32.ofNat (32 - k)).toNat % 32 = 32 - k := by simp; omega
  have hp : 2 ^ 32 = 2 ^ k * 2 ^ (32 - k) := by rw [← Nat.pow_add]; congr 1; omega
  have hl : x.toNat * 2 ^ (32 - k) % 2 ^ 32 = 2 ^ (32 - k) * (x.toNat % 2 ^ k) := by
    rw [hp, Nat.mul_comm x.toNat, Nat.mul_comm (2 ^ k), Nat.mul_mod_mul_left]
  have hr : x.toNat / 2 ^ k < 2 ^ (32 - k) := by
    rw [Nat.div_lt_iff_lt_mul (Nat.two_pow_pos k), Nat.mul_comm, ← hp]; exact hx
  unfold rotr
  rw [UInt32.toNat_or, UInt32.toNat_shiftLeft, UInt32.toNat_shiftRight, e1, e2, Nat.shiftLeft_eq, Nat.shiftRight_eq_div_pow, hl, ← Nat.two_pow_add_eq_or_of_lt hr]
  rw [Nat.mul_comm (2 ^ (32 - k)), Nat.add_comm]
/-- The lowest j bytes of a length, the highest of them first. -/
def lowBytes (n j : Nat) : List UInt8 := (List.range j).map fun t => lenByte n (j - 1 - t)
theorem lowBytes_length (n j : Nat) : (lowBytes n j).length = j := by simp [lowBytes]
theorem lowBytes_succ (n j : Nat) : lowBytes n (j + 1) = lenByte n j :: lowBytes n j := by
  unfold lowBytes
  rw [List.range_succ_eq_map]
  simp only [List.map_cons, List.map_map, Nat.add_sub_cancel, Nat.sub_zero]
  congr 1
  apply List.map_congr_left
  intro t _
  simp only [Function.comp, Nat.succ_eq_add_one]
  congr 1
  omega
theorem lowBytes_eight (n : Nat) : lowBytes n 8 = lenBytes n 8 := rfl
theorem lenByte_low (n i : Nat) : lenByte n (i + 1) = UInt8.ofNat (n / 32 / 256 ^ i) := by
  unfold lenByte
  congr 1
  rw [show 2 ^ (8 * (i + 1)) = 256 * 256 ^ i by rw [Nat.pow_mul]; show 256 ^ (i + 1) = _; rw [Nat.pow_succ, Nat.mul_comm], ← Nat.div_div_eq_div_mul]
  congr 1
  omega
theorem refpad_len (n j : Nat) (hj : j ≤ zerosFor (n % 64)) : (n + 1 + j) % 64 = 56 ↔ j = zerosFor (n % 64) := by
  unfold zerosFor at *
  generalize hr : n % 64 = r at *
  have h : (n + 1 + j) % 64 = (r + 1 + j) % 64 := by omega
  have hr2 : r < 64 := by omega
  rw [h]
  omega
theorem zerosFor_le (r : Nat) : zerosFor r ≤ 64 := by unfold zerosFor; omega
/-- The state behind so many blocks. -/
def hashAt (M : List UInt8) (q : Nat) : St := (eat q H256 M).1
def blockAt (M : List UInt8) (q : Nat) : List UInt8 := (M.drop (64 * q)).take 64
theorem eat_rest : ∀ (q : Nat) (s : St) (l : List UInt8), (eat q s l).2 = l.drop (64 * q)
  | 0, s, l => by simp [eat]
  | q + 1, s, l => by
    show (eat q _ (l.drop 64)).2 = _
    rw [eat_rest q, List.drop_drop]
    congr 1
    omega
theorem hashAt_zero (M : List UInt8) : hashAt M 0 = H256 := rfl
theorem hashAt_succ (M : List UInt8) (q : Nat) : hashAt M (q + 1) = compress (hashAt M q) (blockAt M q) := by
  unfold hashAt blockAt
  rw [eat_add q 1, eat_rest]
  rfl
theorem blockAt_length (M : List UInt8) (q n : Nat) (hn : M.length = 64 * n) (hq : q < n) : (blockAt M q).length = 64 := by
  unfold blockAt
  rw [List.length_take, List.length_drop]
  omega
theorem blockAt_get (M : List UInt8) (q j : Nat) (h : 64 * q + j < M.length) (hj : j < (blockAt M q).length) : (blockAt M q)[j] = M[64 * q + j] := by
  simp [blockAt, List.getElem_take, List.getElem_drop]
theorem refpad_whole (m : List UInt8) : (m ++ pad (m.length % 64) m.length).length % 64 = 0 := by
  rw [List.length_append, pad_length]
  unfold zerosFor
  generalize hr : m.length % 64 = r
  have h : (m.length + ((64 - (r + 9) % 64) % 64 + 9)) % 64 = (r + ((64 - (r + 9) % 64) % 64 + 9)) % 64 := by omega
  have hr2 : r < 64 := by omega
  rw [h]
  omega
theorem word_value (b : List UInt8) (i : Nat) (h : 4 * i + 3 < b.length) :
    (wordPart b i 4).toNat = (b[4 * i]).toNat * 16777216 + (b[4 * i + 1]).toNat * 65536 + (b[4 * i + 2]).toNat * 256 + (b[4 * i + 3]).toNat := by
  have one : ∀ (x : UInt32) (y : UInt8), x.toNat < 16777216 → (byteIn x y).toNat = x.toNat * 256 + y.toNat := by
    intro x y hx
    have hy : y.toNat < 256 := y.toNat_lt
    unfold byteIn
    rw [UInt32.toNat_or, UInt32.toNat_shiftLeft, Nat.shiftLeft_eq]
    have e : (UInt32.ofNat 8).toNat % 32 = 8 := rfl
    rw [e, Nat.mod_eq_of_lt (by omega), UInt8.toNat_toUInt32, Nat.mul_comm x.toNat, ← Nat.two_pow_add_eq_or_of_lt (by simpa using hy)]
  have h0 := wordPart_succ b i 0 (by omega)
  have h1 := wordPart_succ b i 1 (by omega)
  have h2 := wordPart_succ b i 2 (by omega)
  have h3 := wordPart_succ b i 3 (by omega)
  rw [wordPart_zero] at h0
  have b0 := (b[4 * i]).toNat_lt
  have b1 := (b[4 * i + 1]).toNat_lt
  have b2 := (b[4 * i + 2]).toNat_lt
  have e0 : (wordPart b i 1).toNat = (b[4 * i]).toNat := by rw [show (1 : Nat) = 0 + 1 from rfl, h0, one _ _ (by simp)]; simp
  have e1 : (wordPart b i 2).toNat = (b[4 * i]).toNat * 256 + (b[4 * i + 1]).toNat := by rw [show (2 : Nat) = 1 + 1 from rfl, h1, one _ _ (by rw [e0]; omega), e0]
  have e2 : (wordPart b i 3).toNat = ((b[4 * i]).toNat * 256 + (b[4 * i + 1]).toNat) * 256 + (b[4 * i + 2]).toNat := by rw [show (3 : Nat) = 2 + 1 from rfl, h2, one _ _ (by rw [e1]; omega), e1]
  have e3 : (wordPart b i (3 + 1)).toNat = (((b[4 * i]).toNat * 256 + (b[4 * i + 1]).toNat) * 256 + (b[4 * i + 2]).toNat) * 256 + (b[4 * i + 3]).toNat := by rw [h3, one _ _ (by rw [e2]; omega), e2]
  have e4 : (wordPart b i 4).toNat = _ := e3
  rw [e4]
  omega
end Go.Proofs.Ytgjkobokffiajaa
