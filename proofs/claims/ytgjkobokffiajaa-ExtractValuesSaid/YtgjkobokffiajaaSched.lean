/- The message schedule: it computes the plain one. -/
import Derived.Test.YtgjkobokffiajaaSha
import Derived.StillTailTactics
namespace Go.Proofs.Ytgjkobokffiajaa
open Go.RowKit
set_option maxRecDepth 100000
set_option maxHeartbeats 800000
theorem ext_eq (x2 x15 x7 x16 : UInt32) :
    IntKind.u32.wrap (IntKind.u32.wrap (IntKind.u32.wrap (bits .xor .u32 (bits .xor .u32 ((rotr x2 17).toNat : Int) ((rotr x2 19).toNat : Int)) ((x2.toNat : Int) / 1024) + (x7.toNat : Int)) +
      bits .xor .u32 (bits .xor .u32 ((rotr x15 7).toNat : Int) ((rotr x15 18).toNat : Int)) ((x15.toNat : Int) / 8)) + (x16.toNat : Int)) =
    (((rotr x2 17 ^^^ rotr x2 19 ^^^ x2 >>> UInt32.ofNat 10) + x7 + (rotr x15 7 ^^^ rotr x15 18 ^^^ x15 >>> UInt32.ofNat 3) + x16).toNat : Int) := by
  have h1 : (x2.toNat : Int) / 1024 = ((x2 >>> UInt32.ofNat 10).toNat : Int) := shr_u32 x2 10 (by decide)
  have h2 : (x15.toNat : Int) / 8 = ((x15 >>> UInt32.ofNat 3).toNat : Int) := shr_u32 x15 3 (by decide)
  rw [h1, h2, bits_u32_xor, bits_u32_xor, bits_u32_xor, bits_u32_xor, u32_add, u32_add, u32_add]
theorem byteIn_eq (x : UInt32) (b : UInt8) : bits .or .u32 ((x.toNat : Int) * 256 % 4294967296) ((b.toNat : Int) % 4294967296) = ((byteIn x b).toNat : Int) := by
  have h1 : (x.toNat : Int) * 256 % 4294967296 = ((x <<< UInt32.ofNat 8).toNat : Int) := shl_u32 x 8 (by decide)
  have h2 : (b.toNat : Int) % 4294967296 = (b.toUInt32.toNat : Int) := by
    have := b.toNat_lt
    simp
    omega
  rw [h1, h2, bits_u32_or]
  unfold byteIn
  rfl
theorem schedule_calls (w : World) (S : Nat → Prop) (v : Value) (b : List UInt8) (hb : Bs w S v b) (hlen : b.length = 64) :
    Calls Try.prog 85 #[v] w fun e w' => e = .returned (.agg (wa (sched b))) ∧ Below w.heap.size w w' := by
  obtain ⟨-, A, c, rfl, hnc, hcm, hp⟩ := hb
  obtain ⟨g, o, rfl, hS, hg, hcell⟩ := hp (by omega)
  rw [hlen] at hnc ⊢
  go_enter Try.func85, Try.ntmps85
  go_wp2_with (refine wpList_plain rfl fun _ hK => wp_alloc 125 rfl (wa (List.replicate 64 0)) zero_w64 (hK _ _ ?_))
  go_loopw [10] (fun i wr => ∃ k : Nat, k ≤ 16 ∧ i = .int .i64 k ∧ Below w.heap.size w wr ∧ (∃ old, old.size = 64 ∧ wr.heap[w.heap.size]? = some (.cells old 125)) ∧ wr.heap[w.heap.size + 1]? = some (.cells (wa (words b k ++ List.replicate (64 - k) 0)) 125)) (fun i _ => 16 - (intOf i).toNat)
  case atStart => exact ⟨0, by omega, rfl, ((Below.refl _ _).alloc (Nat.le_refl _) _).alloc (by simp) _, ⟨_, wa_size _, hp_old hp_new⟩, by rw [words_zero]; exact hp_new⟩
  case round =>
    obtain ⟨k, hk, rfl, hbw, ⟨old, ho, hb0⟩, hb1⟩ := hrel
    by_cases hlt : k < 16
    · have hkt : decide ((k : Int) < 16) = true := by simp; omega
      go_wp2_with fail
      rw [show 4 * k + 4 - 4 * k = 4 by omega]
      obtain ⟨wo, rfl⟩ : ∃ wo : World, wo = wr := ⟨_, rfl⟩
      go_loopw [21] (fun j wi => ∃ q : Nat, q ≤ 4 ∧ j = .int .i64 q ∧ Below w.heap.size w wi ∧ (∃ old, old.size = 64 ∧ wi.heap[w.heap.size]? = some (.cells old 125)) ∧ wi.heap[w.heap.size + 1]? = some (.cells (wa (words b k ++ wordPart b k q :: List.replicate (63 - k) 0)) 125)) (fun j _ => 4 - (intOf j).toNat)
      case atStart => exact ⟨0, by omega, rfl, hbw, ⟨old, ho, hb0⟩, by rw [hb1, wordPart_zero, show 64 - k = (63 - k) + 1 by omega, List.replicate_succ]⟩
      case round =>
        obtain ⟨q, hq, rfl, hbi, ⟨old1, ho1, hi0⟩, hi1⟩ := hrel
        by_cases hqt : q < 4
        · have hbyte : wr.cell? ⟨g, o + 4 * k + q, none⟩ = some (.int .u8 ((b[4 * k + q]'(by omega)).toNat : Int)) := by
            rw [Nat.add_assoc]; exact (Same.all_of_below hbi).cell (hcell _ _ (bv_at b _ (by omega))) trivial
          have hword : wr.cell? ⟨w.heap.size + 1, k, none⟩ = some (uv (wordPart b k q)) := by
            rw [cell_at _ _ _ _ _ _ hi1, wa_get _ _ (by simp [words_length])]
            simp [words_length]
          go_wp2_with (refine wpList_plain rfl fun _ hK => wp_store_one _ _ _ rfl (w.heap.size + 1) k rfl (uv (byteIn (wordPart b k q) (b[4 * k + q]'(by omega)))) (congrArg (Value.int .u32) (byteIn_eq _ _)) rfl _ _ hi1 info_w (by simp [wa_size, words_length]) fun w1 hb1 hs1 => hK _ _ ?_)
          go_roundw
          case rel =>
            refine ⟨q + 1, by omega, by go_num, hbi.trans (hs1.below_of hbi.size fun _ _ => by omega), ⟨old1, ho1, hs1.heap hi0 (by omega)⟩, ?_⟩
            rw [hb1, wa_set _ _ _ (by simp [words_length]), wordPart_succ b k q (by omega)]
            simp [words_length]
          case measure => simp [intOf]; omega
        · obtain rfl : q = 4 := by omega
          go_wp2_with fail
          go_roundw
          case rel =>
            refine ⟨k + 1, by omega, by go_num, hbi, ⟨old1, ho1, hi0⟩, ?_⟩
            rw [hi1, words_succ, show 64 - (k + 1) = 63 - k by omega]
            simp
          case measure => simp [intOf]; omega
    · obtain rfl : k = 16 := by omega
      go_wp2_with fail
      obtain ⟨wo, rfl⟩ : ∃ wo : World, wo = wr := ⟨_, rfl⟩
      have HO := ho; have H0 := hb0; have HB := hbw
      have H1 : wo.heap[w.heap.size + 1]? = some (.cells (wa (grow (words b 16) (16 - 16) ++ List.replicate (64 - 16) 0)) 125) := by rw [Nat.sub_self, grow_zero]; exact hb1
      clear ho hb0 hb1 hbw
      rw [show ((16 : Nat) : Int) = 16 from rfl]
      go_loopw [7] (fun t wi => ∃ m : Nat, 16 ≤ m ∧ m ≤ 64 ∧ t = .int .i64 (m : Int) ∧ Below w.heap.size w wi ∧ (∃ old, old.size = 64 ∧ wi.heap[w.heap.size]? = some (.cells old 125)) ∧ wi.heap[w.heap.size + 1]? = some (.cells (wa (grow (words b 16) (m - 16) ++ List.replicate (64 - m) 0)) 125)) (fun t _ => 64 - (intOf t).toNat)
      case atStart => exact ⟨16, by omega, by omega, rfl, HB, ⟨old, HO, H0⟩, H1⟩
      case round =>
        obtain ⟨m, hm, hm2, rfl, hbi, ⟨old1, ho1, hi0⟩, hi1⟩ := hrel
        have hGl : (grow (words b 16) (m - 16)).length = m := by rw [grow_length, words_length]; omega
        by_cases hnt : m < 64
        · have htt : decide ((m : Int) < 64) = true := by simp; omega
          have hcl : ∀ j, j < m → ∃ x, x = (grow (words b 16) (m - 16)).getD j 0 ∧ wr.cell? ⟨w.heap.size + 1, j, none⟩ = some (uv x) := fun j hj => by
            refine ⟨_, rfl, ?_⟩
            rw [cell_at _ _ _ _ _ _ hi1, wa_get _ _ (by simp [hGl]; omega), List.getElem_append_left (by omega)]
            simp [hGl, hj]
          obtain ⟨x15, e15, c15⟩ := hcl (m - 15) (by omega)
          obtain ⟨x2, e2, c2⟩ := hcl (m - 2) (by omega)
          obtain ⟨x7, e7, c7⟩ := hcl (m - 7) (by omega)
          obtain ⟨x16, e16, c16⟩ := hcl (m - 16) (by omega)
          clear hcl
          have E : Hid (x15 = (grow (words b 16) (m - 16)).getD (m - 15) 0 ∧ x2 = (grow (words b 16) (m - 16)).getD (m - 2) 0 ∧ x7 = (grow (words b 16) (m - 16)).getD (m - 7) 0 ∧ x16 = (grow (words b 16) (m - 16)).getD (m - 16) 0) := ⟨e15, e2, e7, e16⟩
          clear e15 e2 e7 e16
          have HG : Hid ((grow (words b 16) (m - 16)).length = m) := hGl
          clear hGl
          go_wp2_with fail
          have w15 : IntKind.i64.wrap ((m : Int) - 15) = ((m - 15 : Nat) : Int) := by rw [IntWalk.i64_in _ (by omega)]; omega
          have w2 : IntKind.i64.wrap ((m : Int) - 2) = ((m - 2 : Nat) : Int) := by rw [IntWalk.i64_in _ (by omega)]; omega
          have w7 : IntKind.i64.wrap ((m : Int) - 7) = ((m - 7 : Nat) : Int) := by rw [IntWalk.i64_in _ (by omega)]; omega
          have w16 : IntKind.i64.wrap ((m : Int) - 16) = ((m - 16 : Nat) : Int) := by rw [IntWalk.i64_in _ (by omega)]; omega
          have b15 : ((m - 15 : Nat) : Int) < 64 := by omega
          have b2 : ((m - 2 : Nat) : Int) < 64 := by omega
          have b7 : ((m - 7 : Nat) : Int) < 64 := by omega
          have b16 : ((m - 16 : Nat) : Int) < 64 := by omega
          go_quiet (fail)
          go_wp2_with fail
          refine region_tail 28 (by kernel_rfl) (by kernel_rfl) (fun W hWh hWc hWs => ?_)
          simp only [List.take_succ_cons, List.take_zero, List.drop_succ_cons, List.drop_zero]
          repeat still_step
          still_call (turn_still x2 _ 17 rfl (by decide) (by decide) _)
          repeat still_step
          still_call (turn_still x2 _ 19 rfl (by decide) (by decide) _)
          repeat still_step
          still_call (turn_still x15 _ 7 rfl (by decide) (by decide) _)
          repeat still_step
          still_call (turn_still x15 _ 18 rfl (by decide) (by decide) _)
          repeat still_step
          refine wpStill_nil ?_
          go_wp2_with (refine wpList_plain rfl fun _ hK => wp_store_one _ _ _ rfl (w.heap.size + 1) m rfl (uv (ext (grow (words b 16) (m - 16)))) ?_ rfl _ _ (by rw [hWh]; exact hi1) info_w (by simp [wa_size, HG.out]; omega) fun w1 hb1 hs1 => hK _ _ ?_)
          · refine congrArg (Value.int .u32) (?_ : _ = ((ext (grow (words b 16) (m - 16))).toNat : Int))
            rw [ext_eq]
            unfold ext
            rw [HG.out, E.out.1, E.out.2.1, E.out.2.2.1, E.out.2.2.2]
          · go_roundw
            case rel =>
              refine ⟨m + 1, by omega, by omega, by go_num, ((below_drewN hbi _).trans (hWs.below_of hbi.size fun _ _ => trivial)).trans (hs1.below_of (by rw [hWh]; exact hbi.size) fun _ _ => by omega), ⟨old1, ho1, hs1.heap (by rw [hWh]; exact hi0) (by omega)⟩, ?_⟩
              rw [hb1, wa_set _ _ _ (by simp [HG.out]; omega), show m + 1 - 16 = (m - 16) + 1 by omega, grow]
              have hr : List.replicate (64 - m) (0 : UInt32) = 0 :: List.replicate (64 - (m + 1)) 0 := by rw [show 64 - m = (64 - (m + 1)) + 1 by omega, List.replicate_succ]
              have e : ((grow (words b 16) (m - 16)) ++ 0 :: List.replicate (64 - (m + 1)) 0).set m (ext (grow (words b 16) (m - 16))) = (grow (words b 16) (m - 16)) ++ [ext (grow (words b 16) (m - 16))] ++ List.replicate (64 - (m + 1)) 0 := by
                rw [List.set_append_right _ _ (by rw [HG.out]; exact Nat.le_refl _), HG.out]
                simp
              rw [hr, e]
            case measure => simp [intOf]; omega
        · obtain rfl : m = 64 := by omega
          have hfin : grow (words b 16) (64 - 16) ++ List.replicate (64 - 64) 0 = sched b := by simp [sched]
          rw [hfin] at hi1
          obtain ⟨X, hX⟩ : ∃ X, X = sched b := ⟨_, rfl⟩
          rw [← hX] at hi1
          have hl : X.length = 64 := by rw [hX, sched_length]
          have HX : Hid (X = sched b) := hX
          have hsz : (Try.prog.info? 125).map (·.size) = some (wa X).size := by rw [wa_size, hl]; exact info_w64
          have hol : old1.size = (wa X).size := by rw [ho1, wa_size, hl]
          clear hGl hfin hX hl
          go_wp2_with (first
            | (refine wpList_plain rfl fun _ hK => wp_load_at 125 (.tmp 3) rfl (w.heap.size + 1) 0 rfl (wa X) (.array 64 99) (fun j u hu => (cell_at _ _ _ _ _ _ hi1).trans (by rw [Nat.zero_add]; simpa using hu)) Try.underlying125 rfl hsz (hK _ _ ?_))
            | (refine wpList_plain rfl fun _ hK => wp_store_row _ _ _ rfl w.heap.size rfl (wa X) rfl _ _ hi0 hol hsz (wa_one _) fun w1 hb1 hs1 => hK _ _ ?_))
          refine ret_cell rfl rfl hb1 Try.underlying125 rfl hsz rfl ⟨by rw [HX.out], ?_⟩
          exact hbi.trans (hs1.below_of hbi.size fun _ _ => by omega)
end Go.Proofs.Ytgjkobokffiajaa
