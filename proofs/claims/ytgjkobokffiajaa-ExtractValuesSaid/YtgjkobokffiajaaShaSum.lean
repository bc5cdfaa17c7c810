/- The sum of a list of texts is the plain hash of their joining. -/
import Derived.Test.YtgjkobokffiajaaHashSum
namespace Go.Proofs.Ytgjkobokffiajaa
open Go.RowKit
set_option maxRecDepth 100000
set_option maxHeartbeats 1000000
theorem flat_succ (ts : List (List UInt8)) (k : Nat) (h : k < ts.length) : (ts.take (k + 1)).flatten = (ts.take k).flatten ++ ts[k] := by
  rw [List.take_add_one, List.getElem?_eq_getElem h, List.flatten_append]
  simp
theorem flat_le (ts : List (List UInt8)) (k : Nat) : (ts.take k).flatten.length ≤ ts.flatten.length := by
  have h : ts.flatten = (ts.take k).flatten ++ (ts.drop k).flatten := by rw [← List.flatten_append, List.take_append_drop]
  rw [h, List.length_append]
  exact Nat.le_add_right _ _
theorem shasum_calls (w : World) (S : Nat → Prop) (v : Value) (ts : List (List UInt8)) (ht : Ts w S v ts) (hn : ts.flatten.length ≤ 1099511627776) :
    Calls Try.prog 52 #[v] w fun e w' => e = .returned (dg (SHA ts.flatten)) ∧ Below w.heap.size w w' := by
  obtain ⟨vs, hvl, ⟨_, A, c, rfl, hnc, hcm, hp⟩, hpart⟩ := ht
  have hm : ts.length ≤ 9223372036854775807 := Nat.le_trans hnc hcm
  go_enter Try.func52, Try.ntmps52
  go_wp2_with (refine wpList_plain rfl fun _ hK => wp_alloc 32 rfl (da zeroDig) zero_dg (hK _ _ ?_))
  refine (new_calls _).mono ?_
  rintro e w1 ⟨rfl, hh1, hb1⟩
  rw [World.size_alloc] at hh1 hb1
  go_wp2_with fail
  have hz1 : w.heap.size + 1 < w1.heap.size := lt_of_block hh1
  have ht1 : w1.heap[w.heap.size]? = some (.cells (da zeroDig) 32) := (Same.of_below hb1).heap hp_new (Nat.lt_succ_self _)
  have hbw : ∀ W, Below (w.heap.size + 1) w1 W → Below w.heap.size w W := fun W hW => ((Below.refl _ w).alloc (Nat.le_refl _) _).trans ((hb1.trans hW).mono (Nat.le_succ _))
  have H1 := hh1
  clear hh1 hb1
  go_loopw [9] (fun iv wr => ∃ (k : Nat) (v' : Value), iv = .int .i64 (k : Int) ∧ k ≤ ts.length ∧ wr.heap[w.heap.size + 1]? = some (.cells (hc (eatAll H256 (ts.take k).flatten).1.l v' (ts.take k).flatten.length) 123) ∧ OwnB wr (w.heap.size + 1) v' (eatAll H256 (ts.take k).flatten).2 ∧ v'.ownBlock ≠ some (w.heap.size + 1) ∧ Below (w.heap.size + 1) w1 wr) (fun iv _ => ts.length - (intOf iv).toNat)
  case atStart => exact ⟨0, .slice none 0 0, rfl, Nat.zero_le _, by simpa [eatAll, eat] using H1, ⟨by simp [eatAll, eat, bv], .inl ⟨rfl, by simp [eatAll, eat]⟩⟩, by simp [Value.ownBlock], Below.refl _ _⟩
  case round =>
    obtain ⟨k, v', rfl, hk, hh, ho, hne, hb⟩ := hrel
    have hbk := hbw wr hb
    have hkm : (k : Int) ≤ 9223372036854775807 := by omega
    by_cases hkt : k < ts.length
    · have hkm1 : (k : Int) < 9223372036854775807 := by omega
      have hcond : decide ((k : Int) < (ts.length : Int)) = true := by simp; omega
      obtain ⟨g, o, rfl, hS, hg, hcell⟩ := hp (by omega)
      obtain ⟨u, hu⟩ : ∃ u, vs[k]? = some u := ⟨vs[k]'(by omega), List.getElem?_eq_getElem (by omega)⟩
      have hcu : wr.cell? ⟨g, o + k, none⟩ = some u := (Same.of_below hbk).cell (hcell k u hu) hg
      have hbs := hpart k hkt u hu
      have hbs2 : Bs wr (fun q => q < w.heap.size) u ts[k] := (Rd.mono hbs fun q hq _ => hq).same (Same.of_below hbk) fun _ hq _ => hq
      have htk := flat_succ ts k hkt
      have htl := flat_le ts (k + 1)
      go_wp2_with fail
      refine (write_calls wr (fun q => q < w.heap.size) (w.heap.size + 1) (w.heap.size + 1) _ v' _ _ u ts[k] (Nat.le_refl _) (Nat.le_trans (Nat.le_of_lt hz1) hb.size) hh ho hne hbs2 (fun q hq => by omega) (by rw [htk, List.length_append] at htl; omega) (by rw [htk, List.length_append] at htl; rw [eatAll_length]; have := Nat.mod_lt (ts.take k).flatten.length (show 64 > 0 by decide); omega)).mono ?_
      rintro e w2 ⟨v2, rfl, hh2, ho2, hne2, hb2⟩
      rw [eatAll_append, ← htk] at hh2 ho2
      rw [← List.length_append, ← htk] at hh2
      go_wp2_with fail
      go_roundw
      case rel => exact ⟨k + 1, v2, by go_num, hkt, hh2, ho2, hne2, hb.trans hb2⟩
      case measure => simp [intOf]; omega
    · have hcond : decide ((k : Int) < (ts.length : Int)) = false := by simp; omega
      obtain rfl : k = ts.length := by omega
      rw [List.take_length] at hh ho
      go_wp2_with fail
      refine (hashsum_calls wr _ _ _ v' _ _ hh ho (by rw [eatAll_length]; exact Nat.mod_lt _ (by decide)) hn).mono ?_
      rintro e w3 ⟨he, hb3⟩
      obtain ⟨D, hD⟩ : ∃ D, D = SHA ts.flatten := ⟨_, rfl⟩
      have he : e = .returned (dg D) := hD ▸ he
      subst he
      have HD := Lib.hid hD
      clear hD
      have ht3 := (Same.all_of_below hb3).heap ((Same.of_below hb).heap ht1 (Nat.lt_succ_self _)) trivial
      have hsz : (Try.prog.info? 32).map (·.size) = some (da D).size := by rw [da_size]; kernel_rfl
      have hw3 : Below w.heap.size w w3 := hbk.trans (hb3.mono hbk.size)
      go_wp2_with (refine wpList_plain rfl fun _ hK => wp_store_row 32 (.tmp 2) (.tmp 18) rfl w.heap.size rfl (da D) rfl _ _ ht3 (by rw [da_size, da_size]) hsz (by rw [da_list]; exact bv_one _) fun w4 hh4 hs4 => hK _ _ ?_)
      refine ret_cell rfl rfl hh4 Try.underlying32 rfl hsz rfl ⟨by rw [HD.out], ?_⟩
      exact hw3.trans (hs4.below_of hw3.size fun q _ h => by omega)
end Go.Proofs.Ytgjkobokffiajaa
