/- Two texts, where one commitment comes of two values; whether what was found is two unlike texts of one sum. -/
import Derived.Test.YtgjkobokffiajaaCommit
import Derived.Test.YtgjkobokffiajaaRefSumF

namespace Go.Proofs.Ytgjkobokffiajaa
open Go.RowKit
set_option maxRecDepth 100000
set_option maxHeartbeats 1000000
theorem range_dig {w : World} {g : Nat} {D : Dig} {t : TypeId} {fr : Nat × Nat} (h : w.heap[g]? = some (.cells (da D) t fr)) : w.rangeAt g 0 (bv D.1) := fun j v hv => by
  rw [cell_at _ _ _ _ _ _ h, Nat.zero_add, ← Array.getElem?_toList, da_list]
  exact hv
theorem text2_calls (w : World) (s : Dig) (v : Value) (l : List UInt8) (hv : Bs w (fun _ => True) v l) (hl : l.length ≤ 1000000) :
    Calls Try.prog 38 #[dg s, v] w fun e w' => ∃ A c, e = .returned (.slice A (l.length + 33) c) ∧ OwnB w' w.heap.size (.slice A (l.length + 33) c) (2 :: (s.1 ++ l)) ∧ Below w.heap.size w w' := by
  obtain ⟨A, c, rfl⟩ := hv.shape
  go_enter Try.func38, Try.ntmps38
  go_wp2_with (first
    | (refine app_b rfl (.tmp 5) (.tmp 6) rfl _ _ rfl rfl w.heap.size [2] s.1 33 (by simp [s.2]) (OwnB.lit (by first | exact hp_new rfl | exact hp_new (World.size_alloc _ _).symm | exact hp_new (by first | (simp only [World.size_alloc, World.size_drew]; done) | fail) | assumption | (refine hp_old ?_; first | exact hp_new rfl | exact hp_new (World.size_alloc _ _).symm | exact hp_new (by first | (simp only [World.size_alloc, World.size_drew]; done) | fail) | assumption | (refine hp_old ?_; first | exact hp_new rfl | exact hp_new (World.size_alloc _ _).symm | exact hp_new (by first | (simp only [World.size_alloc, World.size_drew]; done) | fail) | assumption | (refine hp_old ?_; first | exact hp_new rfl | exact hp_new (World.size_alloc _ _).symm | exact hp_new (by first | (simp only [World.size_alloc, World.size_drew]; done) | fail) | assumption | (refine hp_old ?_; first | exact hp_new rfl | exact hp_new (World.size_alloc _ _).symm | exact hp_new (by first | (simp only [World.size_alloc, World.size_drew]; done) | fail) | assumption | fail) | (refine hp_drew ?_; first | exact hp_new rfl | assumption | fail) | fail) | (refine hp_drew ?_; first | exact hp_new rfl | assumption | fail) | fail) | (refine hp_drew ?_; first | exact hp_new rfl | assumption | fail) | fail) | (refine hp_drew ?_; first | exact hp_new rfl | assumption | fail) | fail) (by rfl) rfl (by omega) (by decide)) (fun _ => True) (Bs.of_dig (by first | exact hp_new rfl | exact hp_new (World.size_alloc _ _).symm | exact hp_new (by first | (simp only [World.size_alloc, World.size_drew]; done) | fail) | assumption | (refine hp_old ?_; first | exact hp_new rfl | exact hp_new (World.size_alloc _ _).symm | exact hp_new (by first | (simp only [World.size_alloc, World.size_drew]; done) | fail) | assumption | (refine hp_old ?_; first | exact hp_new rfl | exact hp_new (World.size_alloc _ _).symm | exact hp_new (by first | (simp only [World.size_alloc, World.size_drew]; done) | fail) | assumption | (refine hp_old ?_; first | exact hp_new rfl | exact hp_new (World.size_alloc _ _).symm | exact hp_new (by first | (simp only [World.size_alloc, World.size_drew]; done) | fail) | assumption | (refine hp_old ?_; first | exact hp_new rfl | exact hp_new (World.size_alloc _ _).symm | exact hp_new (by first | (simp only [World.size_alloc, World.size_drew]; done) | fail) | assumption | fail) | (refine hp_drew ?_; first | exact hp_new rfl | assumption | fail) | fail) | (refine hp_drew ?_; first | exact hp_new rfl | assumption | fail) | fail) | (refine hp_drew ?_; first | exact hp_new rfl | assumption | fail) | fail) | (refine hp_drew ?_; first | exact hp_new rfl | assumption | fail) | fail) trivial) (by decide) (by simp; omega) fun A2 c2 w2 ho2 hb2 hs2 hl2 => ?_
       have hb02 := (((Below.refl w.heap.size w).alloc (Nat.le_refl _) (.cells (da s) 32)).alloc (by simp) (.cells #[.int .u8 2] 5)).trans hb2)
    | (refine app_b rfl (.tmp 7) (.tmp 8) rfl _ _ rfl rfl w.heap.size ([2] ++ s.1) l (l.length + 33) (by simp [s.2]; omega) ho2 (fun _ => True) (Bs.again hv (Same.all_of_below hb02)) (by omega) hb02.size fun A3 c3 w3 ho3 hb3 hs3 hl3 => ?_))
  go_ret
  exact ⟨A3, c3, rfl, by simpa using ho3, hb02.trans hb3⟩
theorem found_calls (w : World) (a b : Value) (l m : List UInt8) (ha : Bs w (fun _ => True) a l) (hb : Bs w (fun _ => True) b m) (hl : l.length ≤ 1000000) (hm : m.length ≤ 1000000) :
    Calls Try.prog 17 #[a, b, .bool true] w fun e w' => e = .returned (.bool (!decide (l = m) && decide (SHA l = SHA m))) ∧ Below w.heap.size w w' := by
  have hca := ha.conv
  have hcb := hb.conv
  obtain ⟨A, ca, rfl⟩ := ha.shape
  obtain ⟨B, cb, rfl⟩ := hb.shape
  have hEQ := run_eqIn_dig
  have hG := guard_dig
  by_cases hd : l = m
  · have hq : ((str l).toList == (str m).toList) = true := by rw [str_beq]; simpa using hd
    have HD := Lib.hid hd
    clear hd
    go_enter Try.func17, Try.ntmps17
    go_wp2_with fail
    go_ret
    exact ⟨by rw [decide_eq_true HD.out]; rfl, Below.refl _ _⟩
  · have hq : ((str l).toList == (str m).toList) = false := by rw [str_beq]; simpa using hd
    have HD := Lib.hid hd
    clear hd
    have h1 := refsum_calls w (fun _ => True) _ l ha hl
    obtain ⟨D1, hD1⟩ : ∃ D, D = SHA l := ⟨_, rfl⟩
    obtain ⟨D2, hD2⟩ : ∃ D, D = SHA m := ⟨_, rfl⟩
    rw [← hD1] at h1
    have HDD := Lib.hid (And.intro hD1 hD2)
    go_enter Try.func17, Try.ntmps17
    go_wp2_with fail
    refine h1.mono ?_
    rintro e w1 ⟨rfl, hb1⟩
    have h2 := refsum_calls w1 (fun _ => True) _ m (Bs.again hb (Same.all_of_below hb1)) hm
    rw [← hD2] at h2
    clear hD1 hD2
    go_wp2_with fail
    refine h2.mono ?_
    rintro e w2 ⟨rfl, hb2⟩
    go_wp2_with fail
    go_ret
    exact ⟨by rw [decide_eq_false HD.out, ← HDD.out.1, ← HDD.out.2]; rfl, hb1.trans (hb2.mono hb1.size)⟩
theorem found_no (w : World) (a b : Value) : Calls Try.prog 17 #[a, b, .bool false] w fun e w' => e = .returned (.bool false) ∧ w' = w := by
  go_enter Try.func17, Try.ntmps17
  go_wp2_with fail
  go_ret
  exact ⟨rfl, rfl⟩
theorem values_none (w : World) (c salt other : Dig) (a b : Value) (l m : List UInt8) (ha : Bs w (fun _ => True) a l) (hb : Bs w (fun _ => True) b m) (h : l = m ∨ isValue c salt l = false ∨ isValue c other m = false) :
    Calls Try.prog 15 #[dg c, dg salt, dg other, a, b] w fun e w' => e = .returned (.tuple #[.slice none 0 0, .slice none 0 0, .bool false]) ∧ Below w.heap.size w w' := by
  have hs3 : Same (fun _ => True) w (((w.alloc (.cells (da c) 32)).alloc (.cells (da salt) 32)).alloc (.cells (da other) 32)) := (((Same.refl _ _).alloc _).alloc _).alloc _
  have hB3 : Below w.heap.size w (((w.alloc (.cells (da c) 32)).alloc (.cells (da salt) 32)).alloc (.cells (da other) 32)) := hs3.below_of (Nat.le_refl _) fun _ _ => trivial
  have ha3 := Bs.again ha hs3
  have hb3 := Bs.again hb hs3
  have hcc : (((w.alloc (.cells (da c) 32)).alloc (.cells (da salt) 32)).alloc (.cells (da other) 32)).heap[w.heap.size]? = some (.cells (da c) 32) := hp_old (hp_old (hp_new rfl))
  have hco : (((w.alloc (.cells (da c) 32)).alloc (.cells (da salt) 32)).alloc (.cells (da other) 32)).heap[w.heap.size + 1 + 1]? = some (.cells (da other) 32) := by first | exact hp_new rfl | exact hp_new (World.size_alloc _ _).symm | exact hp_new (by first | (simp only [World.size_alloc, World.size_drew]; done) | fail) | assumption | (refine hp_old ?_; first | exact hp_new rfl | exact hp_new (World.size_alloc _ _).symm | exact hp_new (by first | (simp only [World.size_alloc, World.size_drew]; done) | fail) | assumption | (refine hp_old ?_; first | exact hp_new rfl | exact hp_new (World.size_alloc _ _).symm | exact hp_new (by first | (simp only [World.size_alloc, World.size_drew]; done) | fail) | assumption | (refine hp_old ?_; first | exact hp_new rfl | exact hp_new (World.size_alloc _ _).symm | exact hp_new (by first | (simp only [World.size_alloc, World.size_drew]; done) | fail) | assumption | (refine hp_old ?_; first | exact hp_new rfl | exact hp_new (World.size_alloc _ _).symm | exact hp_new (by first | (simp only [World.size_alloc, World.size_drew]; done) | fail) | assumption | fail) | (refine hp_drew ?_; first | exact hp_new rfl | assumption | fail) | fail) | (refine hp_drew ?_; first | exact hp_new rfl | assumption | fail) | fail) | (refine hp_drew ?_; first | exact hp_new rfl | assumption | fail) | fail) | (refine hp_drew ?_; first | exact hp_new rfl | assumption | fail) | fail
  have heq := equal_calls (((w.alloc (.cells (da c) 32)).alloc (.cells (da salt) 32)).alloc (.cells (da other) 32)) _ _ a b l m ha3 hb3
  have hi1 := isvalue_calls (((w.alloc (.cells (da c) 32)).alloc (.cells (da salt) 32)).alloc (.cells (da other) 32)) c salt a l ha3
  go_enter Try.func15, Try.ntmps15
  by_cases hd : l = m
  · rw [decide_eq_true hd] at heq
    have HD := Lib.hid hd
    clear hd h
    go_wp2_with fail
    refine heq.mono ?_
    rintro e w' ⟨rfl, rfl⟩
    go_wp2_with fail
    go_ret3
    exact ⟨rfl, hB3⟩
  · rw [decide_eq_false hd] at heq
    cases h1 : isValue c salt l with
    | false =>
      rw [h1] at hi1
      have H1 := Lib.hid h1
      clear h1 h hd
      go_wp2_with (first | (refine ld_dig rfl (.tmp 5) rfl rfl (by first | exact hp_new rfl | exact hp_new (World.size_alloc _ _).symm | exact hp_new (by first | (simp only [World.size_alloc, World.size_drew]; done) | fail) | assumption | (refine hp_old ?_; first | exact hp_new rfl | exact hp_new (World.size_alloc _ _).symm | exact hp_new (by first | (simp only [World.size_alloc, World.size_drew]; done) | fail) | assumption | (refine hp_old ?_; first | exact hp_new rfl | exact hp_new (World.size_alloc _ _).symm | exact hp_new (by first | (simp only [World.size_alloc, World.size_drew]; done) | fail) | assumption | (refine hp_old ?_; first | exact hp_new rfl | exact hp_new (World.size_alloc _ _).symm | exact hp_new (by first | (simp only [World.size_alloc, World.size_drew]; done) | fail) | assumption | (refine hp_old ?_; first | exact hp_new rfl | exact hp_new (World.size_alloc _ _).symm | exact hp_new (by first | (simp only [World.size_alloc, World.size_drew]; done) | fail) | assumption | fail) | (refine hp_drew ?_; first | exact hp_new rfl | assumption | fail) | fail) | (refine hp_drew ?_; first | exact hp_new rfl | assumption | fail) | fail) | (refine hp_drew ?_; first | exact hp_new rfl | assumption | fail) | fail) | (refine hp_drew ?_; first | exact hp_new rfl | assumption | fail) | fail) ?_) | (refine ld_dig rfl (.tmp 6) rfl rfl (by first | exact hp_new rfl | exact hp_new (World.size_alloc _ _).symm | exact hp_new (by first | (simp only [World.size_alloc, World.size_drew]; done) | fail) | assumption | (refine hp_old ?_; first | exact hp_new rfl | exact hp_new (World.size_alloc _ _).symm | exact hp_new (by first | (simp only [World.size_alloc, World.size_drew]; done) | fail) | assumption | (refine hp_old ?_; first | exact hp_new rfl | exact hp_new (World.size_alloc _ _).symm | exact hp_new (by first | (simp only [World.size_alloc, World.size_drew]; done) | fail) | assumption | (refine hp_old ?_; first | exact hp_new rfl | exact hp_new (World.size_alloc _ _).symm | exact hp_new (by first | (simp only [World.size_alloc, World.size_drew]; done) | fail) | assumption | (refine hp_old ?_; first | exact hp_new rfl | exact hp_new (World.size_alloc _ _).symm | exact hp_new (by first | (simp only [World.size_alloc, World.size_drew]; done) | fail) | assumption | fail) | (refine hp_drew ?_; first | exact hp_new rfl | assumption | fail) | fail) | (refine hp_drew ?_; first | exact hp_new rfl | assumption | fail) | fail) | (refine hp_drew ?_; first | exact hp_new rfl | assumption | fail) | fail) | (refine hp_drew ?_; first | exact hp_new rfl | assumption | fail) | fail) ?_))
      refine heq.mono ?_
      rintro e w' ⟨rfl, rfl⟩
      go_wp2_with (first | (refine ld_dig rfl (.tmp 5) rfl rfl (by first | exact hp_new rfl | exact hp_new (World.size_alloc _ _).symm | exact hp_new (by first | (simp only [World.size_alloc, World.size_drew]; done) | fail) | assumption | (refine hp_old ?_; first | exact hp_new rfl | exact hp_new (World.size_alloc _ _).symm | exact hp_new (by first | (simp only [World.size_alloc, World.size_drew]; done) | fail) | assumption | (refine hp_old ?_; first | exact hp_new rfl | exact hp_new (World.size_alloc _ _).symm | exact hp_new (by first | (simp only [World.size_alloc, World.size_drew]; done) | fail) | assumption | (refine hp_old ?_; first | exact hp_new rfl | exact hp_new (World.size_alloc _ _).symm | exact hp_new (by first | (simp only [World.size_alloc, World.size_drew]; done) | fail) | assumption | (refine hp_old ?_; first | exact hp_new rfl | exact hp_new (World.size_alloc _ _).symm | exact hp_new (by first | (simp only [World.size_alloc, World.size_drew]; done) | fail) | assumption | fail) | (refine hp_drew ?_; first | exact hp_new rfl | assumption | fail) | fail) | (refine hp_drew ?_; first | exact hp_new rfl | assumption | fail) | fail) | (refine hp_drew ?_; first | exact hp_new rfl | assumption | fail) | fail) | (refine hp_drew ?_; first | exact hp_new rfl | assumption | fail) | fail) ?_) | (refine ld_dig rfl (.tmp 6) rfl rfl (by first | exact hp_new rfl | exact hp_new (World.size_alloc _ _).symm | exact hp_new (by first | (simp only [World.size_alloc, World.size_drew]; done) | fail) | assumption | (refine hp_old ?_; first | exact hp_new rfl | exact hp_new (World.size_alloc _ _).symm | exact hp_new (by first | (simp only [World.size_alloc, World.size_drew]; done) | fail) | assumption | (refine hp_old ?_; first | exact hp_new rfl | exact hp_new (World.size_alloc _ _).symm | exact hp_new (by first | (simp only [World.size_alloc, World.size_drew]; done) | fail) | assumption | (refine hp_old ?_; first | exact hp_new rfl | exact hp_new (World.size_alloc _ _).symm | exact hp_new (by first | (simp only [World.size_alloc, World.size_drew]; done) | fail) | assumption | (refine hp_old ?_; first | exact hp_new rfl | exact hp_new (World.size_alloc _ _).symm | exact hp_new (by first | (simp only [World.size_alloc, World.size_drew]; done) | fail) | assumption | fail) | (refine hp_drew ?_; first | exact hp_new rfl | assumption | fail) | fail) | (refine hp_drew ?_; first | exact hp_new rfl | assumption | fail) | fail) | (refine hp_drew ?_; first | exact hp_new rfl | assumption | fail) | fail) | (refine hp_drew ?_; first | exact hp_new rfl | assumption | fail) | fail) ?_))
      refine hi1.mono ?_
      rintro e w4 ⟨rfl, hb4⟩
      go_wp2_with fail
      go_ret3
      exact ⟨rfl, hB3.trans (hb4.mono (by simp; omega))⟩
    | true =>
      rw [h1] at hi1
      have h2 : isValue c other m = false := by rcases h with h | h | h <;> simp_all
      clear h1 h hd
      have hi2 := fun w4 hw4 => isvalue_calls w4 c other b m hw4
      rw [h2] at hi2
      have H2 := Lib.hid h2
      have HI2 := Lib.hid hi2
      clear h2 hi2
      go_wp2_with (first | (refine ld_dig rfl (.tmp 5) rfl rfl (by first | exact hp_new rfl | exact hp_new (World.size_alloc _ _).symm | exact hp_new (by first | (simp only [World.size_alloc, World.size_drew]; done) | fail) | assumption | (refine hp_old ?_; first | exact hp_new rfl | exact hp_new (World.size_alloc _ _).symm | exact hp_new (by first | (simp only [World.size_alloc, World.size_drew]; done) | fail) | assumption | (refine hp_old ?_; first | exact hp_new rfl | exact hp_new (World.size_alloc _ _).symm | exact hp_new (by first | (simp only [World.size_alloc, World.size_drew]; done) | fail) | assumption | (refine hp_old ?_; first | exact hp_new rfl | exact hp_new (World.size_alloc _ _).symm | exact hp_new (by first | (simp only [World.size_alloc, World.size_drew]; done) | fail) | assumption | (refine hp_old ?_; first | exact hp_new rfl | exact hp_new (World.size_alloc _ _).symm | exact hp_new (by first | (simp only [World.size_alloc, World.size_drew]; done) | fail) | assumption | fail) | (refine hp_drew ?_; first | exact hp_new rfl | assumption | fail) | fail) | (refine hp_drew ?_; first | exact hp_new rfl | assumption | fail) | fail) | (refine hp_drew ?_; first | exact hp_new rfl | assumption | fail) | fail) | (refine hp_drew ?_; first | exact hp_new rfl | assumption | fail) | fail) ?_) | (refine ld_dig rfl (.tmp 6) rfl rfl (by first | exact hp_new rfl | exact hp_new (World.size_alloc _ _).symm | exact hp_new (by first | (simp only [World.size_alloc, World.size_drew]; done) | fail) | assumption | (refine hp_old ?_; first | exact hp_new rfl | exact hp_new (World.size_alloc _ _).symm | exact hp_new (by first | (simp only [World.size_alloc, World.size_drew]; done) | fail) | assumption | (refine hp_old ?_; first | exact hp_new rfl | exact hp_new (World.size_alloc _ _).symm | exact hp_new (by first | (simp only [World.size_alloc, World.size_drew]; done) | fail) | assumption | (refine hp_old ?_; first | exact hp_new rfl | exact hp_new (World.size_alloc _ _).symm | exact hp_new (by first | (simp only [World.size_alloc, World.size_drew]; done) | fail) | assumption | (refine hp_old ?_; first | exact hp_new rfl | exact hp_new (World.size_alloc _ _).symm | exact hp_new (by first | (simp only [World.size_alloc, World.size_drew]; done) | fail) | assumption | fail) | (refine hp_drew ?_; first | exact hp_new rfl | assumption | fail) | fail) | (refine hp_drew ?_; first | exact hp_new rfl | assumption | fail) | fail) | (refine hp_drew ?_; first | exact hp_new rfl | assumption | fail) | fail) | (refine hp_drew ?_; first | exact hp_new rfl | assumption | fail) | fail) ?_))
      refine heq.mono ?_
      rintro e w' ⟨rfl, rfl⟩
      go_wp2_with (first | (refine ld_dig rfl (.tmp 5) rfl rfl (by first | exact hp_new rfl | exact hp_new (World.size_alloc _ _).symm | exact hp_new (by first | (simp only [World.size_alloc, World.size_drew]; done) | fail) | assumption | (refine hp_old ?_; first | exact hp_new rfl | exact hp_new (World.size_alloc _ _).symm | exact hp_new (by first | (simp only [World.size_alloc, World.size_drew]; done) | fail) | assumption | (refine hp_old ?_; first | exact hp_new rfl | exact hp_new (World.size_alloc _ _).symm | exact hp_new (by first | (simp only [World.size_alloc, World.size_drew]; done) | fail) | assumption | (refine hp_old ?_; first | exact hp_new rfl | exact hp_new (World.size_alloc _ _).symm | exact hp_new (by first | (simp only [World.size_alloc, World.size_drew]; done) | fail) | assumption | (refine hp_old ?_; first | exact hp_new rfl | exact hp_new (World.size_alloc _ _).symm | exact hp_new (by first | (simp only [World.size_alloc, World.size_drew]; done) | fail) | assumption | fail) | (refine hp_drew ?_; first | exact hp_new rfl | assumption | fail) | fail) | (refine hp_drew ?_; first | exact hp_new rfl | assumption | fail) | fail) | (refine hp_drew ?_; first | exact hp_new rfl | assumption | fail) | fail) | (refine hp_drew ?_; first | exact hp_new rfl | assumption | fail) | fail) ?_) | (refine ld_dig rfl (.tmp 6) rfl rfl (by first | exact hp_new rfl | exact hp_new (World.size_alloc _ _).symm | exact hp_new (by first | (simp only [World.size_alloc, World.size_drew]; done) | fail) | assumption | (refine hp_old ?_; first | exact hp_new rfl | exact hp_new (World.size_alloc _ _).symm | exact hp_new (by first | (simp only [World.size_alloc, World.size_drew]; done) | fail) | assumption | (refine hp_old ?_; first | exact hp_new rfl | exact hp_new (World.size_alloc _ _).symm | exact hp_new (by first | (simp only [World.size_alloc, World.size_drew]; done) | fail) | assumption | (refine hp_old ?_; first | exact hp_new rfl | exact hp_new (World.size_alloc _ _).symm | exact hp_new (by first | (simp only [World.size_alloc, World.size_drew]; done) | fail) | assumption | (refine hp_old ?_; first | exact hp_new rfl | exact hp_new (World.size_alloc _ _).symm | exact hp_new (by first | (simp only [World.size_alloc, World.size_drew]; done) | fail) | assumption | fail) | (refine hp_drew ?_; first | exact hp_new rfl | assumption | fail) | fail) | (refine hp_drew ?_; first | exact hp_new rfl | assumption | fail) | fail) | (refine hp_drew ?_; first | exact hp_new rfl | assumption | fail) | fail) | (refine hp_drew ?_; first | exact hp_new rfl | assumption | fail) | fail) ?_))
      refine hi1.mono ?_
      rintro e w4 ⟨rfl, hb4⟩
      have hc4 := (Same.all_of_below hb4).heap hcc trivial
      have ho4 := (Same.all_of_below hb4).heap hco trivial
      go_wp2_with (first | (refine ld_dig rfl (.tmp 5) rfl rfl (by first | exact hp_new rfl | exact hp_new (World.size_alloc _ _).symm | exact hp_new (by first | (simp only [World.size_alloc, World.size_drew]; done) | fail) | assumption | (refine hp_old ?_; first | exact hp_new rfl | exact hp_new (World.size_alloc _ _).symm | exact hp_new (by first | (simp only [World.size_alloc, World.size_drew]; done) | fail) | assumption | (refine hp_old ?_; first | exact hp_new rfl | exact hp_new (World.size_alloc _ _).symm | exact hp_new (by first | (simp only [World.size_alloc, World.size_drew]; done) | fail) | assumption | (refine hp_old ?_; first | exact hp_new rfl | exact hp_new (World.size_alloc _ _).symm | exact hp_new (by first | (simp only [World.size_alloc, World.size_drew]; done) | fail) | assumption | (refine hp_old ?_; first | exact hp_new rfl | exact hp_new (World.size_alloc _ _).symm | exact hp_new (by first | (simp only [World.size_alloc, World.size_drew]; done) | fail) | assumption | fail) | (refine hp_drew ?_; first | exact hp_new rfl | assumption | fail) | fail) | (refine hp_drew ?_; first | exact hp_new rfl | assumption | fail) | fail) | (refine hp_drew ?_; first | exact hp_new rfl | assumption | fail) | fail) | (refine hp_drew ?_; first | exact hp_new rfl | assumption | fail) | fail) ?_) | (refine ld_dig rfl (.tmp 7) rfl rfl (by first | exact hp_new rfl | exact hp_new (World.size_alloc _ _).symm | exact hp_new (by first | (simp only [World.size_alloc, World.size_drew]; done) | fail) | assumption | (refine hp_old ?_; first | exact hp_new rfl | exact hp_new (World.size_alloc _ _).symm | exact hp_new (by first | (simp only [World.size_alloc, World.size_drew]; done) | fail) | assumption | (refine hp_old ?_; first | exact hp_new rfl | exact hp_new (World.size_alloc _ _).symm | exact hp_new (by first | (simp only [World.size_alloc, World.size_drew]; done) | fail) | assumption | (refine hp_old ?_; first | exact hp_new rfl | exact hp_new (World.size_alloc _ _).symm | exact hp_new (by first | (simp only [World.size_alloc, World.size_drew]; done) | fail) | assumption | (refine hp_old ?_; first | exact hp_new rfl | exact hp_new (World.size_alloc _ _).symm | exact hp_new (by first | (simp only [World.size_alloc, World.size_drew]; done) | fail) | assumption | fail) | (refine hp_drew ?_; first | exact hp_new rfl | assumption | fail) | fail) | (refine hp_drew ?_; first | exact hp_new rfl | assumption | fail) | fail) | (refine hp_drew ?_; first | exact hp_new rfl | assumption | fail) | fail) | (refine hp_drew ?_; first | exact hp_new rfl | assumption | fail) | fail) ?_))
      refine (HI2.out w4 (Bs.again hb3 (Same.all_of_below hb4))).mono ?_
      rintro e w5 ⟨rfl, hb5⟩
      go_wp2_with fail
      go_ret3
      exact ⟨rfl, (hB3.trans (hb4.mono (by simp; omega))).trans (hb5.mono (by have := hb4.size; simp at this; omega))⟩
theorem values_found (w : World) (c salt other : Dig) (a b : Value) (l m : List UInt8) (ha : Bs w (fun _ => True) a l) (hb : Bs w (fun _ => True) b m) (hd : l ≠ m) (h1 : isValue c salt l = true) (h2 : isValue c other m = true) (hll : l.length ≤ 1000000) (hml : m.length ≤ 1000000) :
    Calls Try.prog 15 #[dg c, dg salt, dg other, a, b] w fun e w' => ∃ A1 c1 A2 c2, e = .returned (.tuple #[.slice A1 (l.length + 33) c1, .slice A2 (m.length + 33) c2, .bool true]) ∧ Bs w' (fun _ => True) (.slice A1 (l.length + 33) c1) (2 :: (salt.1 ++ l)) ∧ Bs w' (fun _ => True) (.slice A2 (m.length + 33) c2) (2 :: (other.1 ++ m)) ∧ Below w.heap.size w w' := by
  have hs3 : Same (fun _ => True) w (((w.alloc (.cells (da c) 32)).alloc (.cells (da salt) 32)).alloc (.cells (da other) 32)) := (((Same.refl _ _).alloc _).alloc _).alloc _
  have hB3 : Below w.heap.size w (((w.alloc (.cells (da c) 32)).alloc (.cells (da salt) 32)).alloc (.cells (da other) 32)) := hs3.below_of (Nat.le_refl _) fun _ _ => trivial
  have ha3 := Bs.again ha hs3
  have hb3 := Bs.again hb hs3
  have hcc : (((w.alloc (.cells (da c) 32)).alloc (.cells (da salt) 32)).alloc (.cells (da other) 32)).heap[w.heap.size]? = some (.cells (da c) 32) := hp_old (hp_old (hp_new rfl))
  have hcs : (((w.alloc (.cells (da c) 32)).alloc (.cells (da salt) 32)).alloc (.cells (da other) 32)).heap[w.heap.size + 1]? = some (.cells (da salt) 32) := by first | exact hp_new rfl | exact hp_new (World.size_alloc _ _).symm | exact hp_new (by first | (simp only [World.size_alloc, World.size_drew]; done) | fail) | assumption | (refine hp_old ?_; first | exact hp_new rfl | exact hp_new (World.size_alloc _ _).symm | exact hp_new (by first | (simp only [World.size_alloc, World.size_drew]; done) | fail) | assumption | (refine hp_old ?_; first | exact hp_new rfl | exact hp_new (World.size_alloc _ _).symm | exact hp_new (by first | (simp only [World.size_alloc, World.size_drew]; done) | fail) | assumption | (refine hp_old ?_; first | exact hp_new rfl | exact hp_new (World.size_alloc _ _).symm | exact hp_new (by first | (simp only [World.size_alloc, World.size_drew]; done) | fail) | assumption | (refine hp_old ?_; first | exact hp_new rfl | exact hp_new (World.size_alloc _ _).symm | exact hp_new (by first | (simp only [World.size_alloc, World.size_drew]; done) | fail) | assumption | fail) | (refine hp_drew ?_; first | exact hp_new rfl | assumption | fail) | fail) | (refine hp_drew ?_; first | exact hp_new rfl | assumption | fail) | fail) | (refine hp_drew ?_; first | exact hp_new rfl | assumption | fail) | fail) | (refine hp_drew ?_; first | exact hp_new rfl | assumption | fail) | fail
  have hco : (((w.alloc (.cells (da c) 32)).alloc (.cells (da salt) 32)).alloc (.cells (da other) 32)).heap[w.heap.size + 1 + 1]? = some (.cells (da other) 32) := by first | exact hp_new rfl | exact hp_new (World.size_alloc _ _).symm | exact hp_new (by first | (simp only [World.size_alloc, World.size_drew]; done) | fail) | assumption | (refine hp_old ?_; first | exact hp_new rfl | exact hp_new (World.size_alloc _ _).symm | exact hp_new (by first | (simp only [World.size_alloc, World.size_drew]; done) | fail) | assumption | (refine hp_old ?_; first | exact hp_new rfl | exact hp_new (World.size_alloc _ _).symm | exact hp_new (by first | (simp only [World.size_alloc, World.size_drew]; done) | fail) | assumption | (refine hp_old ?_; first | exact hp_new rfl | exact hp_new (World.size_alloc _ _).symm | exact hp_new (by first | (simp only [World.size_alloc, World.size_drew]; done) | fail) | assumption | (refine hp_old ?_; first | exact hp_new rfl | exact hp_new (World.size_alloc _ _).symm | exact hp_new (by first | (simp only [World.size_alloc, World.size_drew]; done) | fail) | assumption | fail) | (refine hp_drew ?_; first | exact hp_new rfl | assumption | fail) | fail) | (refine hp_drew ?_; first | exact hp_new rfl | assumption | fail) | fail) | (refine hp_drew ?_; first | exact hp_new rfl | assumption | fail) | fail) | (refine hp_drew ?_; first | exact hp_new rfl | assumption | fail) | fail
  have heq := equal_calls (((w.alloc (.cells (da c) 32)).alloc (.cells (da salt) 32)).alloc (.cells (da other) 32)) _ _ a b l m ha3 hb3
  have hi1 := isvalue_calls (((w.alloc (.cells (da c) 32)).alloc (.cells (da salt) 32)).alloc (.cells (da other) 32)) c salt a l ha3
  have hi2 := fun w4 hw4 => isvalue_calls w4 c other b m hw4
  rw [decide_eq_false hd] at heq
  rw [h1] at hi1
  rw [h2] at hi2
  have HI2 := Lib.hid hi2
  clear h1 h2 hi2 hd
  go_enter Try.func15, Try.ntmps15
  go_wp2_with (first | (refine ld_dig rfl (.tmp 5) rfl rfl (by first | exact hp_new rfl | exact hp_new (World.size_alloc _ _).symm | exact hp_new (by first | (simp only [World.size_alloc, World.size_drew]; done) | fail) | assumption | (refine hp_old ?_; first | exact hp_new rfl | exact hp_new (World.size_alloc _ _).symm | exact hp_new (by first | (simp only [World.size_alloc, World.size_drew]; done) | fail) | assumption | (refine hp_old ?_; first | exact hp_new rfl | exact hp_new (World.size_alloc _ _).symm | exact hp_new (by first | (simp only [World.size_alloc, World.size_drew]; done) | fail) | assumption | (refine hp_old ?_; first | exact hp_new rfl | exact hp_new (World.size_alloc _ _).symm | exact hp_new (by first | (simp only [World.size_alloc, World.size_drew]; done) | fail) | assumption | (refine hp_old ?_; first | exact hp_new rfl | exact hp_new (World.size_alloc _ _).symm | exact hp_new (by first | (simp only [World.size_alloc, World.size_drew]; done) | fail) | assumption | fail) | (refine hp_drew ?_; first | exact hp_new rfl | assumption | fail) | fail) | (refine hp_drew ?_; first | exact hp_new rfl | assumption | fail) | fail) | (refine hp_drew ?_; first | exact hp_new rfl | assumption | fail) | fail) | (refine hp_drew ?_; first | exact hp_new rfl | assumption | fail) | fail) ?_) | (refine ld_dig rfl (.tmp 6) rfl rfl (by first | exact hp_new rfl | exact hp_new (World.size_alloc _ _).symm | exact hp_new (by first | (simp only [World.size_alloc, World.size_drew]; done) | fail) | assumption | (refine hp_old ?_; first | exact hp_new rfl | exact hp_new (World.size_alloc _ _).symm | exact hp_new (by first | (simp only [World.size_alloc, World.size_drew]; done) | fail) | assumption | (refine hp_old ?_; first | exact hp_new rfl | exact hp_new (World.size_alloc _ _).symm | exact hp_new (by first | (simp only [World.size_alloc, World.size_drew]; done) | fail) | assumption | (refine hp_old ?_; first | exact hp_new rfl | exact hp_new (World.size_alloc _ _).symm | exact hp_new (by first | (simp only [World.size_alloc, World.size_drew]; done) | fail) | assumption | (refine hp_old ?_; first | exact hp_new rfl | exact hp_new (World.size_alloc _ _).symm | exact hp_new (by first | (simp only [World.size_alloc, World.size_drew]; done) | fail) | assumption | fail) | (refine hp_drew ?_; first | exact hp_new rfl | assumption | fail) | fail) | (refine hp_drew ?_; first | exact hp_new rfl | assumption | fail) | fail) | (refine hp_drew ?_; first | exact hp_new rfl | assumption | fail) | fail) | (refine hp_drew ?_; first | exact hp_new rfl | assumption | fail) | fail) ?_))
  refine heq.mono ?_
  rintro e w' ⟨rfl, rfl⟩
  go_wp2_with (first | (refine ld_dig rfl (.tmp 5) rfl rfl (by first | exact hp_new rfl | exact hp_new (World.size_alloc _ _).symm | exact hp_new (by first | (simp only [World.size_alloc, World.size_drew]; done) | fail) | assumption | (refine hp_old ?_; first | exact hp_new rfl | exact hp_new (World.size_alloc _ _).symm | exact hp_new (by first | (simp only [World.size_alloc, World.size_drew]; done) | fail) | assumption | (refine hp_old ?_; first | exact hp_new rfl | exact hp_new (World.size_alloc _ _).symm | exact hp_new (by first | (simp only [World.size_alloc, World.size_drew]; done) | fail) | assumption | (refine hp_old ?_; first | exact hp_new rfl | exact hp_new (World.size_alloc _ _).symm | exact hp_new (by first | (simp only [World.size_alloc, World.size_drew]; done) | fail) | assumption | (refine hp_old ?_; first | exact hp_new rfl | exact hp_new (World.size_alloc _ _).symm | exact hp_new (by first | (simp only [World.size_alloc, World.size_drew]; done) | fail) | assumption | fail) | (refine hp_drew ?_; first | exact hp_new rfl | assumption | fail) | fail) | (refine hp_drew ?_; first | exact hp_new rfl | assumption | fail) | fail) | (refine hp_drew ?_; first | exact hp_new rfl | assumption | fail) | fail) | (refine hp_drew ?_; first | exact hp_new rfl | assumption | fail) | fail) ?_) | (refine ld_dig rfl (.tmp 6) rfl rfl (by first | exact hp_new rfl | exact hp_new (World.size_alloc _ _).symm | exact hp_new (by first | (simp only [World.size_alloc, World.size_drew]; done) | fail) | assumption | (refine hp_old ?_; first | exact hp_new rfl | exact hp_new (World.size_alloc _ _).symm | exact hp_new (by first | (simp only [World.size_alloc, World.size_drew]; done) | fail) | assumption | (refine hp_old ?_; first | exact hp_new rfl | exact hp_new (World.size_alloc _ _).symm | exact hp_new (by first | (simp only [World.size_alloc, World.size_drew]; done) | fail) | assumption | (refine hp_old ?_; first | exact hp_new rfl | exact hp_new (World.size_alloc _ _).symm | exact hp_new (by first | (simp only [World.size_alloc, World.size_drew]; done) | fail) | assumption | (refine hp_old ?_; first | exact hp_new rfl | exact hp_new (World.size_alloc _ _).symm | exact hp_new (by first | (simp only [World.size_alloc, World.size_drew]; done) | fail) | assumption | fail) | (refine hp_drew ?_; first | exact hp_new rfl | assumption | fail) | fail) | (refine hp_drew ?_; first | exact hp_new rfl | assumption | fail) | fail) | (refine hp_drew ?_; first | exact hp_new rfl | assumption | fail) | fail) | (refine hp_drew ?_; first | exact hp_new rfl | assumption | fail) | fail) ?_))
  refine hi1.mono ?_
  rintro e w4 ⟨rfl, hb4⟩
  have hc4 := (Same.all_of_below hb4).heap hcc trivial
  have hs4 := (Same.all_of_below hb4).heap hcs trivial
  have ho4 := (Same.all_of_below hb4).heap hco trivial
  go_wp2_with (first | (refine ld_dig rfl (.tmp 5) rfl rfl (by first | exact hp_new rfl | exact hp_new (World.size_alloc _ _).symm | exact hp_new (by first | (simp only [World.size_alloc, World.size_drew]; done) | fail) | assumption | (refine hp_old ?_; first | exact hp_new rfl | exact hp_new (World.size_alloc _ _).symm | exact hp_new (by first | (simp only [World.size_alloc, World.size_drew]; done) | fail) | assumption | (refine hp_old ?_; first | exact hp_new rfl | exact hp_new (World.size_alloc _ _).symm | exact hp_new (by first | (simp only [World.size_alloc, World.size_drew]; done) | fail) | assumption | (refine hp_old ?_; first | exact hp_new rfl | exact hp_new (World.size_alloc _ _).symm | exact hp_new (by first | (simp only [World.size_alloc, World.size_drew]; done) | fail) | assumption | (refine hp_old ?_; first | exact hp_new rfl | exact hp_new (World.size_alloc _ _).symm | exact hp_new (by first | (simp only [World.size_alloc, World.size_drew]; done) | fail) | assumption | fail) | (refine hp_drew ?_; first | exact hp_new rfl | assumption | fail) | fail) | (refine hp_drew ?_; first | exact hp_new rfl | assumption | fail) | fail) | (refine hp_drew ?_; first | exact hp_new rfl | assumption | fail) | fail) | (refine hp_drew ?_; first | exact hp_new rfl | assumption | fail) | fail) ?_) | (refine ld_dig rfl (.tmp 7) rfl rfl (by first | exact hp_new rfl | exact hp_new (World.size_alloc _ _).symm | exact hp_new (by first | (simp only [World.size_alloc, World.size_drew]; done) | fail) | assumption | (refine hp_old ?_; first | exact hp_new rfl | exact hp_new (World.size_alloc _ _).symm | exact hp_new (by first | (simp only [World.size_alloc, World.size_drew]; done) | fail) | assumption | (refine hp_old ?_; first | exact hp_new rfl | exact hp_new (World.size_alloc _ _).symm | exact hp_new (by first | (simp only [World.size_alloc, World.size_drew]; done) | fail) | assumption | (refine hp_old ?_; first | exact hp_new rfl | exact hp_new (World.size_alloc _ _).symm | exact hp_new (by first | (simp only [World.size_alloc, World.size_drew]; done) | fail) | assumption | (refine hp_old ?_; first | exact hp_new rfl | exact hp_new (World.size_alloc _ _).symm | exact hp_new (by first | (simp only [World.size_alloc, World.size_drew]; done) | fail) | assumption | fail) | (refine hp_drew ?_; first | exact hp_new rfl | assumption | fail) | fail) | (refine hp_drew ?_; first | exact hp_new rfl | assumption | fail) | fail) | (refine hp_drew ?_; first | exact hp_new rfl | assumption | fail) | fail) | (refine hp_drew ?_; first | exact hp_new rfl | assumption | fail) | fail) ?_))
  refine (HI2.out w4 (Bs.again hb3 (Same.all_of_below hb4))).mono ?_
  rintro e w5 ⟨rfl, hb5⟩
  have hs5 := (Same.all_of_below hb5).heap hs4 trivial
  have ho5 := (Same.all_of_below hb5).heap ho4 trivial
  have hB5 := (hB3.trans (hb4.mono (by simp; omega))).trans (hb5.mono (by have := hb4.size; simp at this; omega))
  have hav := Bs.again ha (Same.all_of_below hB5)
  have hbv := Bs.again hb (Same.all_of_below hB5)
  have hu32 := Try.underlying32
  have hi32 : (Try.prog.info? 32).map (·.size) = some (bv salt.1).length := by rw [bv_length, salt.2]; kernel_rfl
  have hi33 : (Try.prog.info? 32).map (·.size) = some (bv other.1).length := by rw [bv_length, other.2]; kernel_rfl
  have hl32 : (bv salt.1).length = 32 := by rw [bv_length, salt.2]
  have hl33 : (bv other.1).length = 32 := by rw [bv_length, other.2]
  have hs1c := bv_one salt.1
  have ho1c := bv_one other.1
  have h55 := Same.refl (fun _ => True) w5
  clear ha hb ha3 hb3 hs3 hcc hcs hco heq hi1 hb4 hc4 hs4 ho4 hb5 HI2
  go_wp2_with fail
  obtain ⟨g7, hg7⟩ : ∃ g, g = w.heap.size + 1 + 1 := ⟨_, rfl⟩
  rw [← hg7] at ho5 ⊢
  obtain ⟨g6, hg6⟩ : ∃ g, g = w.heap.size + 1 := ⟨_, rfl⟩
  rw [← hg6] at hs5 ⊢
  clear hg6 hg7
  refine wp_region_held_drew (S := fun W => Same (fun _ => True) w5 W) (by kernel_rfl) ?_ (fun hHeld => ?_)
  · exact h55.drew
  have hy6 : ∀ W, Same (fun _ => True) w5 W → W.rangeAt g6 0 (bv salt.1) := fun W h => range_dig (h.heap hs5 trivial)
  have hy7 : ∀ W, Same (fun _ => True) w5 W → W.rangeAt g7 0 (bv other.1) := fun W h => range_dig (h.heap ho5 trivial)
  refine wpAnyH_take (i := 0) (oi := ⟨some 31, _, _, _, _, _⟩) (v := .func (.func 38) #[] #[]) rfl (by kernel_rfl) (by kernel_rfl) (by kernel_rfl) (fun _ _ _ h => h) (Or.inl ⟨by rfl, fun _ _ => rfl⟩) (by assumption) ?_
  try simp only [Act.put, List.setIfInBounds_toArray, List.set_cons_zero, List.set_cons_succ]
  refine wpAnyH_take (i := 1) (oi := ⟨some 32, _, _, _, _, _⟩) (v := _) rfl (by kernel_rfl) (by kernel_rfl) (by kernel_rfl) (fun _ _ _ h => h) (yieldsIf_load_mid (by rfl) _ _ rfl _ _ rfl _ _ hy6 hu32 rfl hi32) (by assumption) ?_
  try simp only [Act.put, List.setIfInBounds_toArray, List.set_cons_zero, List.set_cons_succ]
  refine wpAnyH_take (i := 2) (oi := ⟨some 33, _, _, _, _, _⟩) (v := a) rfl (by kernel_rfl) (by kernel_rfl) (by kernel_rfl) (fun _ _ _ h => h) (Or.inl ⟨by rfl, fun _ _ => rfl⟩) (by assumption) ?_
  try simp only [Act.put, List.setIfInBounds_toArray, List.set_cons_zero, List.set_cons_succ]
  refine wpAnyH_take (i := 4) (oi := ⟨some 35, _, _, _, _, _⟩) (v := .func (.func 38) #[] #[]) rfl (by kernel_rfl) (by kernel_rfl) (by kernel_rfl) (fun _ _ _ h => h) (Or.inl ⟨by rfl, fun _ _ => rfl⟩) (by assumption) ?_
  try simp only [Act.put, List.setIfInBounds_toArray, List.set_cons_zero, List.set_cons_succ]
  refine wpAnyH_take (i := 5) (oi := ⟨some 36, _, _, _, _, _⟩) (v := _) rfl (by kernel_rfl) (by kernel_rfl) (by kernel_rfl) (fun _ _ _ h => h) (yieldsIf_load_mid (by rfl) _ _ rfl _ _ rfl _ _ hy7 hu32 rfl hi33) (by assumption) ?_
  try simp only [Act.put, List.setIfInBounds_toArray, List.set_cons_zero, List.set_cons_succ]
  refine wpAnyH_take (i := 6) (oi := ⟨some 37, _, _, _, _, _⟩) (v := b) rfl (by kernel_rfl) (by kernel_rfl) (by kernel_rfl) (fun _ _ _ h => h) (Or.inl ⟨by rfl, fun _ _ => rfl⟩) (by assumption) ?_
  try simp only [Act.put, List.setIfInBounds_toArray, List.set_cons_zero, List.set_cons_succ]

  refine wpAnyH_ready (rs := [3]) (by kernel_rfl) (by simp) ?_
  refine AllReadyH.cons (o := ⟨some 34, _, _, _, _, _⟩) rfl (fun K hK => ?_) AllReadyH.nil
  go_simp
  refine (text2_calls _ salt _ l (Bs.again hav h55.drew) hll).mono ?_
  rintro e w6 ⟨A1, c1, rfl, ho6, hb6⟩
  have hS6 : Same (fun _ => True) w5 w6 := h55.drew.trans (Same.all_of_below hb6)
  refine hK.out _ _ (hS6) (fun hHeld => ?_)
  clear hK K
  try simp only [Act.put, List.setIfInBounds_toArray, List.set_cons_zero, List.set_cons_succ]
  refine wpAnyH_ready (rs := [7]) (by kernel_rfl) (by simp) ?_
  refine AllReadyH.cons (o := ⟨some 38, _, _, _, _, _⟩) rfl (fun K hK => ?_) AllReadyH.nil
  go_simp
  refine (text2_calls _ other _ m (Bs.again hbv hS6) hml).mono ?_
  rintro e w7 ⟨A2, c2, rfl, ho7, hb7⟩
  have hS7 : Same (fun _ => True) w5 w7 := hS6.trans (Same.all_of_below hb7)
  refine hK.out _ _ (hS7) (fun hHeld => ?_)
  clear hK K
  try simp only [Act.put, List.setIfInBounds_toArray, List.set_cons_zero, List.set_cons_succ]
  refine wpAnyH_ready (rs := [8]) (by kernel_rfl) (by simp) ?_
  refine AllReadyH.cons (o := ⟨some 10, _, _, _, _, _⟩) rfl (fun K hK => ?_) AllReadyH.nil
  go_simp
  refine hK.out _ _ (hS7) (fun hHeld => ?_)
  clear hK K
  try simp only [Act.put, List.setIfInBounds_toArray, List.set_cons_zero, List.set_cons_succ]
  refine wpAnyH_ready (rs := [9]) (by kernel_rfl) (by simp) ?_
  refine AllReadyH.cons (o := ⟨some 11, _, _, _, _, _⟩) rfl (fun K hK => ?_) AllReadyH.nil
  go_simp
  refine hK.out _ _ (hS7) (fun hHeld => ?_)
  clear hK K
  try simp only [Act.put, List.setIfInBounds_toArray, List.set_cons_zero, List.set_cons_succ]
  refine wpAnyH_ready (rs := [10]) (by kernel_rfl) (by simp) ?_
  refine AllReadyH.cons (o := ⟨some 12, _, _, _, _, _⟩) rfl (fun K hK => ?_) AllReadyH.nil
  go_simp
  refine hK.out _ _ (hS7) (fun hHeld => ?_)
  clear hK K
  try simp only [Act.put, List.setIfInBounds_toArray, List.set_cons_zero, List.set_cons_succ]
  refine wpAnyH_done (by kernel_rfl) ?_ _
  go_wp2_with fail
  go_ret3
  exact ⟨A1, c1, A2, c2, rfl, OwnB.any' (own_ext ho6 (Same.all_of_below hb7)), ho7.any', hB5.trans (hS7.below_of hB5.size fun _ _ => trivial)⟩
end Go.Proofs.Ytgjkobokffiajaa
