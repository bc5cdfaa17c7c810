/- One block of the hash: it computes the plain one. -/
import Derived.Test.YtgjkobokffiajaaSched
import Derived.Lib.Hide
namespace Go.Proofs.Ytgjkobokffiajaa
open Go.RowKit
set_option maxRecDepth 100000
set_option maxHeartbeats 1000000
theorem bits_u32_not (x : UInt32) : bits .xor .u32 (if IntKind.u32.signed = true then -1 else IntKind.u32.max) (x.toNat : Int) = ((~~~ x).toNat : Int) := by
  have h := bits_u32_xor 4294967295 x
  have e : (4294967295 : UInt32) ^^^ x = ~~~ x := by
    apply UInt32.toBitVec_inj.1
    simp
    exact BitVec.allOnes_xor
  rw [e] at h
  exact h
theorem p_eq (s : St) (kk ww : UInt32) : (((s.h.toNat : Int) + bits .xor .u32 (bits .xor .u32 ((rotr s.e 6).toNat : Int) ((rotr s.e 11).toNat : Int)) ((rotr s.e 25).toNat : Int) +
    bits .or .u32 (bits .and .u32 (s.e.toNat : Int) (s.f.toNat : Int)) (bits .and .u32 ((~~~ s.e).toNat : Int) (s.g.toNat : Int)) + (kk.toNat : Int)) % 4294967296 + (ww.toNat : Int)) % 4294967296 =
    ((pOf s kk ww).toNat : Int) := by
  rw [bits_u32_xor, bits_u32_xor, bits_u32_and, bits_u32_and, bits_u32_or]
  unfold pOf
  simp only [UInt32.toNat_add]
  omega
theorem q_eq (s : St) : ((bits .xor .u32 (bits .xor .u32 ((rotr s.a 2).toNat : Int) ((rotr s.a 13).toNat : Int)) ((rotr s.a 22).toNat : Int) +
    bits .or .u32 (bits .or .u32 (bits .and .u32 (s.a.toNat : Int) (s.b.toNat : Int)) (bits .and .u32 (s.a.toNat : Int) (s.c.toNat : Int))) (bits .and .u32 (s.b.toNat : Int) (s.c.toNat : Int))) % 4294967296) =
    ((qOf s).toNat : Int) := by
  rw [bits_u32_xor, bits_u32_xor, bits_u32_and, bits_u32_and, bits_u32_and, bits_u32_or, bits_u32_or]
  unfold qOf
  simp only [UInt32.toNat_add]
  omega
theorem step_agg (s : St) (kk ww : UInt32) (x0 x4 : Int) (h0 : x0 = ((pOf s kk ww + qOf s).toNat : Int)) (h4 : x4 = ((s.d + pOf s kk ww).toNat : Int)) :
    Value.agg #[.int .u32 x0, uv s.a, uv s.b, uv s.c, .int .u32 x4, uv s.e, uv s.f, uv s.g] = .agg (wa (s.step kk ww).l) := by subst h0 h4; rfl
theorem u32_add' (x y : UInt32) : ((x.toNat : Int) + (y.toNat : Int)) % 4294967296 = ((x + y).toNat : Int) := by
  rw [UInt32.toNat_add]; omega
def addTo (l m : List UInt32) (j : Nat) : List UInt32 := List.zipWith (· + ·) (l.take j) m ++ l.drop j
theorem addTo_succ (s t : St) (j : Nat) (h : j < 8) : (addTo s.l t.l j).set j ((addTo s.l t.l j).getD j 0 + t.l.getD j 0) = addTo s.l t.l (j + 1) := by
  obtain rfl | rfl | rfl | rfl | rfl | rfl | rfl | rfl : j = 0 ∨ j = 1 ∨ j = 2 ∨ j = 3 ∨ j = 4 ∨ j = 5 ∨ j = 6 ∨ j = 7 := by omega
  all_goals rfl
theorem addTo_length (s t : St) (j : Nat) (h : j ≤ 8) : (addTo s.l t.l j).length = 8 := by
  simp [addTo, St.l_length]; omega
theorem hc_set (l : List UInt32) (v : Value) (n j : Nat) (x : UInt32) (h : j < l.length) : splice (hc l v n) j [uv x] = hc (l.set j x) v n := by
  apply Array.ext_getElem?
  intro i
  rw [splice_get (by simp [hc_size]; omega)]
  simp only [hc, wv, List.getElem?_toArray, List.length_cons, List.length_nil, List.map_set]
  rw [← List.set_append_left _ _ (by simpa using h), List.getElem?_set]
  by_cases h1 : i < j
  · simp [h1, show ¬ j = i by omega]
  · by_cases h2 : i = j
    · subst h2; simp; omega
    · simp [h1, show ¬ i < j + 1 by omega, show ¬ j = i by omega]
theorem quiet_same {P : Program} {f : FuncId} {args : Array Value} {w : World} {a n : Nat} {v : Value}
    (h : Calls P f args (w.drewN (a + n)) fun e w' => e = .returned v ∧ w' = w.drewN (a + n)) :
    Calls P f args (w.drewN (a + n)) fun e w'' => e = .returned v ∧ ∃ m, w'' = w.drewN (a + m) :=
  h.mono fun _ _ hh => ⟨hh.1, n, hh.2⟩
theorem take_calls (w : World) (S : Nat → Prop) (v : Value) (b : List UInt8) (hb : Bs w S v b) (hlen : b.length = 64) (gh : Nat) (s : St) (rest : Value) (n : Nat)
    (hh : w.heap[gh]? = some (.cells (hc s.l rest n) 123)) :
    Calls Try.prog 84 #[.pointer (some ⟨gh, 0, none⟩), v] w fun e w' => e = .returned (.tuple #[]) ∧ w'.heap[gh]? = some (.cells (hc (compress s b).l rest n) 123) ∧ Same (· ≠ gh) w w' := by
  have hgl := lt_of_block hh
  have hsl : (wa s.l).size = 8 := by rw [wa_size, St.l_length]
  go_enter Try.func84, Try.ntmps84
  have hld : ∀ (j : Nat) (u : Value), (wa s.l).toList[j]? = some u → w.cell? ⟨gh, 0 + j, none⟩ = some u := fun j u hu => by
    have hj : j < s.l.length := by
      rcases Nat.lt_or_ge j s.l.length with h | h
      · exact h
      · rw [List.getElem?_eq_none (by rw [wa_list, wv_length]; exact h)] at hu; cases hu
    rw [cell_at _ _ _ _ _ _ hh, Nat.zero_add, hc_state _ _ _ _ hj, ← hu, wa_list]
    simp [wv, hj]
  go_wp2_with (first
    | (refine wpList_plain rfl fun _ hK => wp_load_at 121 (.tmp 16) rfl gh 0 rfl (wa s.l) (.array 8 99) hld Try.underlying121 rfl info_w8 (hK _ _ ?_))
    | (refine wpList_plain rfl fun _ hK => wp_alloc 121 rfl (wa (List.replicate 8 0)) zero_w8 (hK _ _ ?_))
    | (refine wpList_plain rfl fun _ hK => wp_store_row 121 (.tmp 4) (.tmp 17) rfl w.heap.size rfl (wa s.l) rfl _ _ hp_new (by rw [wa_size, hsl]; rfl) info_w8 (wa_one _) fun w1 hb4 hs1 => hK _ _ ?_))
  clear hld
  have hs1 : Same (· ≠ w.heap.size) w w1 := ((Same.refl _ w).alloc _).trans (hs1.mono fun _ _ h => h)
  have hz1 := hs1.size
  refine (schedule_calls w1 S v b (hb.same hs1 fun k hk _ => by omega) hlen).mono ?_
  rintro e w2 ⟨rfl, hb2⟩
  go_wp2_with fail
  refine (keys_calls w2).mono ?_
  rintro e w3 ⟨rfl, hb3⟩
  have hs3 : Same (fun _ => True) w1 w3 := (Same.all_of_below hb2).trans ((Same.all_of_below hb3).mono fun _ _ _ => trivial)
  have hb4 := hs3.heap hb4 trivial
  have hl4 := lt_of_block hb4
  have hS := sched_length b
  generalize hX : sched b = X at *
  have HX := Lib.hid hX
  clear hX
  go_wp2_with (first
    | (refine wpList_plain rfl fun _ hK => wp_alloc_at w3.heap.size 125 rfl rfl (wa (List.replicate 64 0)) zero_w64 (hK _ _ ?_))
    | (refine wpList_plain rfl fun _ hK => wp_alloc_at (w3.heap.size + 1) 125 rfl (World.size_alloc _ _) (wa (List.replicate 64 0)) zero_w64 (hK _ _ ?_))
    | (refine wpList_plain rfl fun _ hK => wp_store_row 125 (.tmp 5) (.tmp 19) rfl w3.heap.size rfl (wa X) rfl _ _ (hp_old hp_new) (by rw [wa_size, wa_size, hS]; rfl) (by rw [wa_size, hS]; exact info_w64) (wa_one _) fun w4 hb5 hs4 => hK _ _ ?_)
    | (refine wpList_plain rfl fun _ hK => wp_store_row 125 (.tmp 6) (.tmp 20) rfl (w3.heap.size + 1) rfl (wa K256) rfl _ _ (hs4.heap hp_new (by omega)) rfl info_w64 (wa_one _) fun w5 hb6 hs5 => hK _ _ ?_))
  have hs35 : Same (· < w3.heap.size) w3 w5 := (((Same.refl _ w3).alloc _).alloc _).trans ((hs4.mono fun k _ hk => by omega).trans (hs5.mono fun k _ hk => by omega))
  have hb4 := hs35.heap hb4 hl4
  have hb5 := hs5.heap hb5 (by omega)
  have hz3 := hs3.size
  have hs05 : Same (· ≠ w.heap.size) w w5 := hs1.trans ((hs3.mono fun _ _ _ => trivial).trans (hs35.mono fun k hk _ => hk))
  have hh5 := hs05.heap hh (by omega)
  clear hs4 hs5 hs1 hb hb2 hb3 hs3 hs35
  go_loopw [21] (fun i wr => ∃ k : Nat, k ≤ 64 ∧ i = .int .i64 (k : Int) ∧ Same (· ≠ w.heap.size) w5 wr ∧ wr.heap[w.heap.size]? = some (.cells (wa (rounds s K256 X k).l) 121)) (fun i _ => 64 - (intOf i).toNat)
  case atStart => exact ⟨0, by omega, rfl, Same.refl _ _, hb4⟩
  case round =>
    obtain ⟨k, hk, rfl, hsr, hr4⟩ := hrel
    by_cases hkt : k < 64
    · have htt : decide ((k : Int) < 64) = true := by simp; omega
      have cK : wr.cell? ⟨w3.heap.size + 1, k, none⟩ = some (uv (K256.getD k 0)) := by
        rw [cell_at _ _ _ _ _ _ (hsr.heap hb6 (by omega)), wa_get _ _ (by show k < 64; exact hkt), List.getD_eq_getElem?_getD, List.getElem?_eq_getElem (by show k < 64; exact hkt)]; rfl
      have cW : wr.cell? ⟨w3.heap.size, k, none⟩ = some (uv (X.getD k 0)) := by
        rw [cell_at _ _ _ _ _ _ (hsr.heap hb5 (by omega)), wa_get _ _ (by omega), List.getD_eq_getElem?_getD, List.getElem?_eq_getElem (by omega)]; rfl
      generalize hT : rounds s K256 X k = t at hr4
      have HT := Lib.hid hT
      clear hT
      obtain ⟨a, b', c, d, e, f, g, h⟩ := t
      have hc : ∀ j, wr.cell? ⟨w.heap.size, j, none⟩ = (wa (St.mk a b' c d e f g h).l)[j]? := fun j => cell_at _ _ _ _ _ _ hr4
      have c0 : wr.cell? ⟨w.heap.size, 0, none⟩ = some (uv a) := hc 0
      have c1 : wr.cell? ⟨w.heap.size, 1, none⟩ = some (uv b') := hc 1
      have c2 : wr.cell? ⟨w.heap.size, 2, none⟩ = some (uv c) := hc 2
      have c3 : wr.cell? ⟨w.heap.size, 3, none⟩ = some (uv d) := hc 3
      have c4 : wr.cell? ⟨w.heap.size, 4, none⟩ = some (uv e) := hc 4
      have c5 : wr.cell? ⟨w.heap.size, 5, none⟩ = some (uv f) := hc 5
      have c6 : wr.cell? ⟨w.heap.size, 6, none⟩ = some (uv g) := hc 6
      have c7 : wr.cell? ⟨w.heap.size, 7, none⟩ = some (uv h) := hc 7
      clear hc
      generalize hkk : K256.getD k 0 = kk at cK
      generalize hww : X.getD k 0 = ww at cW
      have HKW := Lib.hid (And.intro hkk hww)
      clear hkk hww
      go_wp2_with fail
      go_quiet (fail)
      go_wp2_with fail
      go_quiet ((go_at_call 87; exact quiet_same (turn_any _ _ (by decide) _)))
      simp only [bits_u32_not]
      rw [p_eq ⟨a, b', c, d, e, f, g, h⟩ kk ww]
      go_wp2_with fail
      go_quiet ((go_at_call 87; exact quiet_same (turn_any _ _ (by decide) _)))
      rw [q_eq ⟨a, b', c, d, e, f, g, h⟩]
      go_wp2_with (refine wpList_plain rfl fun _ hK => wp_store_row 121 (.tmp 4) (.tmp 99) rfl w.heap.size rfl (wa (St.mk a b' c d e f g h |>.step kk ww).l) ?_ _ _ hr4 rfl info_w8 (wa_one _) fun w6 hb6' hs6 => hK _ _ ?_)
      · exact step_agg ⟨a, b', c, d, e, f, g, h⟩ kk ww _ _ (by first | exact u32_add _ _ | exact u32_add' _ _) (by first | exact u32_add _ _ | exact u32_add' _ _)
      · go_roundw
        case rel =>
          refine ⟨k + 1, by omega, by go_num, (fun h => Same.trans h hs6) ⟨hsr.os, hsr.tape, hsr.output, hsr.size, hsr.block⟩, ?_⟩
          rw [hb6', rounds, HT.out, HKW.out.1, HKW.out.2]
        case measure => simp [intOf]; omega
    · obtain rfl : k = 64 := by omega
      generalize hT : rounds s K256 X 64 = t at hr4
      have HT := Lib.hid hT
      clear hT
      have hll : ∀ (j : Nat) (u : Value), (wa t.l).toList[j]? = some u → wr.cell? ⟨w.heap.size, 0 + j, none⟩ = some u := fun j u hu => by
        rw [cell_at _ _ _ _ _ _ hr4, Nat.zero_add]; simpa using hu
      go_wp2_with (refine wpList_plain rfl fun _ hK => wp_load_at 121 (.tmp 4) rfl w.heap.size 0 rfl (wa t.l) (.array 8 99) hll Try.underlying121 rfl info_w8 (hK _ _ ?_))
      have hhr := hsr.heap hh5 (by omega)
      have h5 := hs05.trans hsr
      clear hll hsr hr4 hb4 hb5 hb6 hh5 hs05
      obtain ⟨wo, rfl⟩ : ∃ wo : World, wo = wr := ⟨_, rfl⟩
      go_loopw [102] (fun i wr => ∃ j : Nat, j ≤ 8 ∧ i = .int .i64 (j : Int) ∧ Same (· ≠ gh) wo wr ∧ wr.heap[gh]? = some (.cells (hc (addTo s.l t.l j) rest n) 123)) (fun i _ => 8 - (intOf i).toNat)
      case atStart => exact ⟨0, by omega, rfl, Same.refl _ _, hhr⟩
      case round =>
        obtain ⟨j, hj, rfl, hsj, hbj⟩ := hrel
        by_cases hjt : j < 8
        · have htt : decide ((j : Int) < 8) = true := by simp; omega
          have hal := addTo_length s t j hj
          have cj : wr.cell? ⟨gh, j, none⟩ = some (uv ((addTo s.l t.l j).getD j 0)) := by
            rw [cell_at _ _ _ _ _ _ hbj, hc_state _ _ _ _ (by omega), List.getD_eq_getElem?_getD, List.getElem?_eq_getElem (by omega)]; rfl
          have htj : (wa t.l)[j]? = some (uv (t.l.getD j 0)) := by
            rw [wa_get _ _ (by rw [St.l_length]; exact hjt), List.getD_eq_getElem?_getD, List.getElem?_eq_getElem (by rw [St.l_length]; exact hjt)]; rfl
          have hadd := addTo_succ s t j hjt
          generalize (addTo s.l t.l j).getD j 0 = x at cj hadd
          generalize t.l.getD j 0 = y at htj hadd
          have HA := Lib.hid hadd
          have HL := Lib.hid hal
          have HJ := Lib.hid htj
          clear hadd hal htj
          go_wp2_with (refine wpList_plain rfl fun _ hK => wp_index 121 (.tmp 101) (.tmp 102) rfl (wa t.l) rfl .i64 j 8 rfl 99 Try.underlying121 hjt (uv y) HJ.out info_w ⟨_, Try.underlying99, rfl⟩ (hK _ _ ?_))
          have hjI : (j : Int) < 8 := by omega
          refine region_tail 10 (by kernel_rfl) (by kernel_rfl) (fun W hWh hWc hWs => ?_)
          simp only [List.take_succ_cons, List.take_zero, List.drop_succ_cons, List.drop_zero]
          repeat still_step
          refine wpStill_nil ?_
          go_wp2_with (refine wpList_plain rfl fun _ hK => wp_store_one 99 _ _ rfl gh j rfl (uv (x + y)) (congrArg (Value.int .u32) (by first | exact u32_add _ _ | exact u32_add' _ _)) rfl _ _ (by rw [hWh]; exact hbj) info_w (by rw [hc_size, HL.out]; omega) fun w7 hb7 hs7 => hK _ _ ?_)
          go_roundw
          case rel =>
            refine ⟨j + 1, by omega, by go_num, (hsj.trans (hWs.mono fun _ _ _ => trivial)).trans hs7, ?_⟩
            rw [hb7, hc_set _ _ _ _ _ (by rw [HL.out]; exact hjt), HA.out]
          case measure => simp [intOf]; omega
        · obtain rfl : j = 8 := by omega
          go_wp2_with fail
          go_end0
          refine ⟨rfl, ?_, ?_⟩
          · rw [hbj, show addTo s.l t.l 8 = (s.add t).l from rfl, ← HT.out, ← HX.out]
            rfl
          · refine ⟨hsj.os.trans h5.os, hsj.tape.trans h5.tape, hsj.output.trans h5.output, Nat.le_trans h5.size hsj.size, fun k hk hne => ?_⟩
            exact (hsj.block k (Nat.lt_of_lt_of_le hk h5.size) hne).trans (h5.block k hk (by omega))
end Go.Proofs.Ytgjkobokffiajaa
