/- The small functions of the hash: they compute the plain ones. -/
import Derived.Test.YtgjkobokffiajaaWords
import Derived.Test.YtgjkobokffiajaaU32
import Derived.Test.YtgjkobokffiajaaShaSpec
namespace Go.Proofs.Ytgjkobokffiajaa
open Go.RowKit
set_option maxRecDepth 100000
set_option maxHeartbeats 800000
theorem turn_bits : ∀ k : Nat, k < 32 → 0 < k → bits .and .u64 (IntKind.u64.wrap (-(k : Int))) 31 = ((32 - k : Nat) : Int) := by decide +kernel
theorem rot_eq (x : UInt32) (k : Nat) (hk : k < 32) (h0 : 0 < k) :
    bits .or .u32 ((x.toNat : Int) * 2 ^ (32 - k) % 4294967296) ((x.toNat : Int) / 2 ^ (32 - (32 - k))) = ((rotr x k).toNat : Int) := by
  rw [show 32 - (32 - k) = k by omega, shl_u32 x _ (by omega), shr_u32 x k hk, bits_u32_or]
  unfold rotr
  rfl
theorem ret_u32 {a : Int} {x : UInt32} (h : a = (x.toNat : Int)) : Ending.returned (.int .u32 a) = .returned (uv x) := by rw [h]
theorem rot_calls (x : UInt32) (k : Nat) (hk : k < 32) (h0 : 0 < k) (w : World) :
    Calls Try.prog 88 #[uv x, .int .i64 (-(k : Int))] w fun e w' => e = .returned (uv (rotr x k)) ∧ w = w' := by
  have hb := turn_bits k hk h0
  go_enter Try.func88, Try.ntmps88
  go_wp2
  go_ret
  exact ⟨ret_u32 (rot_eq x k hk h0), rfl⟩
theorem turn_calls (x : UInt32) (k : Nat) (hk : k < 32) (h0 : 0 < k) (w : World) :
    Calls Try.prog 87 #[uv x, .int .i64 k] w fun e w' => e = .returned (uv (rotr x k)) ∧ w = w' := by
  go_enter Try.func87, Try.ntmps87
  go_wp2_with (go_at_call 88; refine (rot_calls x k hk h0 _).mono ?_; rintro e w' ⟨rfl, rfl⟩)
  go_ret
  exact ⟨rfl, rfl⟩
theorem turn_any (x : UInt32) (n : Int) (h : 0 < n ∧ n < 32) (w : World) :
    Calls Try.prog 87 #[uv x, .int .i64 n] w fun e w' => e = .returned (uv (rotr x n.toNat)) ∧ w' = w := by
  obtain ⟨k, rfl⟩ := Int.eq_ofNat_of_zero_le (show 0 ≤ n by omega)
  exact (turn_calls x k (by omega) (by omega) w).mono fun _ _ h => ⟨h.1, h.2.symm⟩
theorem turn_still (x : UInt32) (n : Int) (k : Nat) (hn : n = (k : Int)) (hk : k < 32) (h0 : 0 < k) (w : World) :
    Calls Try.prog 87 #[uv x, .int .i64 n] w fun e w' => e = .returned (uv (rotr x k)) ∧ w' = w := by
  subst hn
  exact (turn_calls x k hk h0 w).mono fun _ _ h => ⟨h.1, h.2.symm⟩

/-! ### keys, New -/
def wv (l : List UInt32) : List Value := l.map uv
def wa (l : List UInt32) : Array Value := (wv l).toArray
theorem wv_length (l : List UInt32) : (wv l).length = l.length := by simp [wv]
theorem wa_size (l : List UInt32) : (wa l).size = l.length := by simp [wa, wv_length]
theorem wa_list (l : List UInt32) : (wa l).toList = wv l := by simp [wa]
theorem wv_one (l : List UInt32) : ∀ u ∈ wv l, u.oneCell' = true := by
  intro u hu
  simp only [wv, List.mem_map] at hu
  obtain ⟨b, _, rfl⟩ := hu
  rfl
theorem info_w64 : (Try.prog.info? 125).map (·.size) = some 64 := by kernel_rfl
theorem info_w8 : (Try.prog.info? 121).map (·.size) = some 8 := by kernel_rfl
theorem zero_w64 : (Try.prog.info? 125).map (fun i => (i.zero.map (·.cells), i.size)) = some (some (wa (List.replicate 64 0)), (wa (List.replicate 64 0)).size) := by kernel_rfl
theorem zero_w8 : (Try.prog.info? 121).map (fun i => (i.zero.map (·.cells), i.size)) = some (some (wa (List.replicate 8 0)), (wa (List.replicate 8 0)).size) := by kernel_rfl
theorem wa_one (l : List UInt32) : ∀ u ∈ (wa l).toList, u.oneCell' = true := by rw [wa_list]; exact wv_one l
theorem keys_calls (w : World) : Calls Try.prog 86 #[] w fun e w' => e = .returned (.agg (wa K256)) ∧ Below w.heap.size w w' := by
  go_enter Try.func86, Try.ntmps86
  go_wp2_with (first
    | (refine wpList_plain rfl fun _ hK => wp_alloc 125 rfl (wa (List.replicate 64 0)) zero_w64 (hK _ _ ?_))
    | (refine wpList_plain rfl fun _ hK => wp_build _ _ (.agg (wa K256)) rfl (by kernel_rfl) (hK _ _ ?_))
    | (refine wpList_plain rfl fun _ hK => wp_store_row _ _ _ rfl w.heap.size rfl (wa K256) rfl _ _ hp_new rfl info_w64 (wa_one _) fun w1 hb1 hs1 => hK _ _ ?_))
  refine ret_cell rfl rfl hb1 Try.underlying125 rfl info_w64 rfl ⟨rfl, ?_⟩
  exact Below.trans ((Below.refl _ _).alloc (Nat.le_refl _) _) (Same.below_of hs1 (by simp) fun k hk => by omega)

theorem wa_get (l : List UInt32) (j : Nat) (h : j < l.length) : (wa l)[j]? = some (uv l[j]) := by simp [wa, wv, h]
theorem wa_set (l : List UInt32) (j : Nat) (x : UInt32) (h : j < l.length) : splice (wa l) j [uv x] = wa (l.set j x) := by
  apply Array.ext_getElem?
  intro i
  rw [splice_get (by simp [wa_size]; omega)]
  simp only [wa, wv, List.getElem?_toArray, List.getElem?_map, List.length_cons, List.length_nil, List.getElem?_set]
  by_cases h1 : i < j
  · simp [h1, show ¬ j = i by omega]
  · by_cases h2 : i = j
    · subst h2; simp [h]
    · simp [h1, show ¬ i < j + 1 by omega, show ¬ j = i by omega]
theorem info_w : (Try.prog.info? 99).map (·.size) = some 1 := by kernel_rfl
/-- The cells of a hash: its state, what waits, how many bytes were written. -/
def hc (s : List UInt32) (v : Value) (n : Nat) : Array Value := (wv s ++ [v, .int .i64 n]).toArray
theorem hc_size (s : List UInt32) (v : Value) (n : Nat) : (hc s v n).size = s.length + 2 := by simp [hc, wv_length]
theorem hc_state (s : List UInt32) (v : Value) (n j : Nat) (h : j < s.length) : (hc s v n)[j]? = some (uv s[j]) := by
  simp only [hc, List.getElem?_toArray]
  rw [List.getElem?_append_left (by simpa [wv_length] using h)]
  simp [wv, h]
theorem new_calls (w : World) : Calls Try.prog 74 #[] w fun e w' => e = .returned (.pointer (some ⟨w.heap.size, 0, none⟩)) ∧ w'.heap[w.heap.size]? = some (.cells (hc H256.l (.slice none 0 0) 0) 123) ∧ Below w.heap.size w w' := by
  go_enter Try.func74, Try.ntmps74
  go_wp2_with (first
    | (refine wpList_plain rfl fun _ hK => wp_build 121 _ (.agg (wa H256.l)) rfl (by kernel_rfl) (hK _ _ ?_))
    | (refine wpList_plain rfl fun _ hK => wp_build 123 _ (.agg (hc H256.l (.slice none 0 0) 0)) rfl (by kernel_rfl) (hK _ _ ?_)))
  go_ret
  exact ⟨rfl, hp_new, (Below.refl _ _).alloc (Nat.le_refl _) _⟩
end Go.Proofs.Ytgjkobokffiajaa
