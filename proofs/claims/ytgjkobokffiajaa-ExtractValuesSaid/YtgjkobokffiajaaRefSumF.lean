/- The reference hash: it computes the plain one. -/
import Derived.Test.YtgjkobokffiajaaRefSumB
import Derived.Test.YtgjkobokffiajaaRefSumE
import Derived.Deep.CutBlock
namespace Go.Proofs.Ytgjkobokffiajaa
open Go.RowKit
set_option maxRecDepth 100000
set_option maxHeartbeats 4000000
theorem own_room {w : World} {g : Nat} {e : TypeId} {size : Nat} (h : w.heap[g]? = some (.cells #[] e)) {base : Nat} (hg : base ≤ g := by omega) : w.ownsRow base e size (.slice (some ⟨g, 0, none⟩) 0 0) 0 [] :=
  ⟨by simp, .inr ⟨g, 0, #[], rfl, hg, h, Nat.le_refl _, by decide, by simp, by simp⟩⟩
theorem sha_ref (m : List UInt8) (n : Nat) (h : (m ++ pad (m.length % 64) m.length).length = 64 * n) : outs (hashAt (m ++ pad (m.length % 64) m.length) n) 32 = (SHA m).1 := by
  unfold SHA finish hashAt
  simp only
  rw [eatAll_length, eatAll_append]
  unfold eatAll
  rw [h, Nat.mul_div_cancel_left _ (by decide)]
theorem refsum_calls (w : World) (S : Nat → Prop) (v : Value) (m : List UInt8) (hb : Bs w S v m) (hm : m.length ≤ 1000000) :
    Calls Try.prog 40 #[v] w fun e w' => e = .returned (dg (SHA m)) ∧ Below w.heap.size w w' := by
  obtain ⟨A, c, rfl⟩ := hb.shape
  have hb0 : Bs w (fun _ => True) (.slice A m.length c) m := Rd.any hb
  have hmk : ∀ u : World, (Instr.makeSlice 100 (.int .i64 64) (.int .i64 64)).run Try.prog u = .ok (.slice (some ⟨u.heap.size, 0, none⟩) 64 64) (u.alloc (.cells (wa (List.replicate 64 0)) 99)) := fun u => make_u32 u 64 (by decide)
  go_enter Try.func40, Try.ntmps40
  go_wp2_with (refine wpList_plain rfl fun _ hK => wp_alloc 32 rfl (da zeroDig) zero_dg (hK _ _ ?_))
  refine (refkeys_calls _).mono ?_
  rintro e w1 ⟨rfl, hk1, hb1⟩
  go_wp2_with fail
  refine (refpad_calls w1 (fun _ => True) _ m (Bs.again hb0 ((((Same.refl _ _).alloc _).alloc _).trans (Same.all_of_below hb1))) hm).mono ?_
  rintro e w2 ⟨u, rfl, hu2, hb2⟩
  obtain ⟨A2, c2, rfl⟩ := hu2.shape
  obtain ⟨n, hn⟩ : ∃ n, (m ++ pad (m.length % 64) m.length).length = 64 * n := ⟨_, (Nat.mul_div_cancel' (Nat.dvd_of_mod_eq_zero (refpad_whole m))).symm⟩
  have hn1 : n ≤ 100000 := by have h1 := pad_length (m.length % 64) m.length; have h2 := zerosFor_le (m.length % 64); rw [List.length_append, h1] at hn; omega
  have hn0 : 0 < n := by have h1 := pad_length (m.length % 64) m.length; rw [List.length_append, h1] at hn; omega
  obtain ⟨M, hMM⟩ : ∃ M, M = m ++ pad (m.length % 64) m.length := ⟨_, rfl⟩
  rw [← hMM] at hn hu2 ⊢
  have HMM := Lib.hid hMM
  clear hMM
  rcases hu2.slice with ⟨_, h0⟩ | ⟨gm, cm, hv, hgm, hlc, _⟩
  · rw [h0] at hn; simp at hn; omega
  simp only [Value.slice.injEq, true_and] at hv
  obtain ⟨rfl, rfl⟩ := hv
  have hcM : ∀ j (h : j < M.length), w2.cell? ⟨gm, j, none⟩ = some (.int .u8 (M[j].toNat : Int)) := fun j h => by
    have h1 := hu2.cells (g := gm) rfl j _ (bv_at M j h)
    rw [Addr.add_lit] at h1; simpa using h1
  have hz1 := hb1.size
  have hz2 := hb2.size
  simp only [World.size_alloc] at hz1
  have hS2 := Same.all_of_below hb2
  have hs0 : w2.heap[w.heap.size + 1]? = some (.cells (wa H256.l) 99) := hS2.heap ((Same.all_of_below hb1).heap (hp_new (by simp)) trivial) trivial
  have hk2 : w2.heap[w.heap.size + 1 + 1]? = some (.cells (wa K256) 99) := hS2.heap (by have h := hk1; simp only [World.size_alloc] at h; exact h) trivial
  have hB2 : Below w.heap.size w w2 := ((((Below.refl _ _).alloc (Nat.le_refl _) _).alloc (by simp) _).trans (hb1.mono (by simp; omega))).trans (hb2.mono (by omega))
  have hdg : w2.heap[w.heap.size]? = some (.cells (da zeroDig) 32) := hS2.heap ((Same.all_of_below hb1).heap (hp_old (hp_new rfl)) trivial) trivial
  have hgm0 := (hu2.lt gm rfl)
  obtain ⟨L, hL⟩ : ∃ L, L = M.length := ⟨_, rfl⟩
  rw [← hL]
  have HN := Lib.hid hn
  have HL : Hid (L = 64 * n) := Lib.hid (hL.trans hn)
  have hLc : (L : Int) ≤ (c2 : Int) := by omega
  clear hL
  clear hb hb0 hk1 hb1 hb2 hu2 hS2 hn hn0
  go_wp2_with fail
  go_loopw [6] (fun at' wr => ∃ q : Nat, q ≤ n ∧ at' = .int .i64 ((64 * q : Nat) : Int) ∧ Same (· ≠ w.heap.size + 1) w2 wr ∧ wr.heap[w.heap.size + 1]? = some (.cells (wa (hashAt M q).l) 99)) (fun at' _ => L - (intOf at').toNat)
  case atStart => exact ⟨0, Nat.zero_le _, rfl, Same.refl _ _, by rw [hashAt_zero]; exact hs0⟩
  case round =>
    obtain ⟨q, hq, rfl, hsr, hr⟩ := hrel
    obtain ⟨wo, rfl⟩ : ∃ wo : World, wo = wr := ⟨_, rfl⟩
    have hzr := hsr.size
    by_cases hqn : q < n
    · have hcond : decide (64 * q < L) = true := by have := HL.out; simp; omega
      obtain ⟨P, hP⟩ : ∃ P, P = 64 * q := ⟨_, rfl⟩
      rw [← hP] at hcond ⊢
      obtain ⟨blk, hblk⟩ : ∃ b, b = blockAt M q := ⟨_, rfl⟩
      have hbl : blk.length = 64 := by rw [hblk]; exact blockAt_length M q n HN.out hqn
      have hcb : ∀ j (h : j < blk.length), wo.cell? ⟨gm, P + j, none⟩ = some (.int .u8 (blk[j].toNat : Int)) := fun j h => by
        have h1 := hsr.cell (hcM (P + j) (by have := HN.out; omega)) (by show gm ≠ _; omega)
        rw [h1]; subst hblk hP; rw [blockAt_get M q j (by have := HN.out; omega) h]
      have HB := Lib.hid hblk
      have HP := Lib.hid hP
      have hPi : (P : Int) ≤ 10000000 := by omega
      clear hblk hP
      have hcx : ∀ W : World, Same (fun _ => True) wo W → W.heap[w.heap.size + 1]? = some (.cells (wa (hashAt M q).l) 99) := fun W hW => hW.heap hr trivial
      have hkx : ∀ W : World, Same (fun _ => True) wo W → W.heap[w.heap.size + 1 + 1]? = some (.cells (wa K256) 99) := fun W hW => hW.heap (hsr.heap hk2 (by show w.heap.size + 1 + 1 ≠ w.heap.size + 1; omega)) trivial
      have hwgs : w.heap.size + 1 < wo.heap.size := by omega
      go_upto_block 2 with (fail)
      refine refsum_b2 wo _ blk gm L c2 P hPi (by have := HL.out; have := HP.out; omega) (by have := HL.out; omega) hLc hbl ((Same.refl _ _).alloc _) hcb (hp_new rfl) ?_
      intros
      rename_i wA hA
      obtain ⟨hA, hiA⟩ := hA
      go_upto_block 4 with (fail)
      refine refsum_b4 wo wA blk hA hiA ?_
      intros
      rename_i wB hB
      obtain ⟨hB, hiB⟩ := hB
      obtain ⟨X, hX⟩ : ∃ X, X = sched blk := ⟨_, rfl⟩
      have hXl : X.length = 64 := by rw [hX]; exact sched_length _
      rw [← hX] at hiB
      have HX := Lib.hid hX
      clear hX
      go_upto_block 6 with (refine list_app rfl (.tmp 121) (.tmp 122) 100 rfl 99 1 4 (.int .u32 0) Try.underlying100 info_u32 rfl (by decide) (by decide) _ _ rfl rfl wB.heap.size 0 8 8 [] (wv (hashAt M q).l) rfl (own_room (hp_new rfl)) (fun _ => True) (by rw [← wa_list]; exact Rd.of_block (hp_old (hcx wB hB)) trivial (by simp [wa_size, St.l_length]) (by decide)) (wv_one _) (by decide) (by simp) fun A5 c5 w5 ho5 hb5 hs5 hl5 => ?_)
      obtain ⟨g5, hA5, hg5⟩ : ∃ g5, A5 = some ⟨g5, 0, none⟩ ∧ wB.heap.size ≤ g5 := by
        rcases ho5.2 with ⟨_, h0⟩ | ⟨g, cap, cur, hv, hb, _⟩
        · cases h0
        · simp only [Value.slice.injEq] at hv
          exact ⟨g, hv.1, hb⟩
      subst hA5
      have hB5 := ((Below.refl wB.heap.size wB).alloc (Nat.le_refl _) _).trans hb5
      have hSB5 := hB.trans (Same.all_of_below hB5)
      have hown := ho5.2
      refine refsum_b6 w5 (w.heap.size + 1 + 1) wo.heap.size X (hashAt M q) _ hXl (B := wB.heap.size) hB5.size ⟨g5, c5, rfl, ?_, hg5, (ho5.lt g5 rfl).2, fun j hj => ?_⟩ (hkx w5 hSB5) ((Same.all_of_below hB5).heap hiB trivial) ?_
      · rcases ho5.2 with ⟨h, _⟩ | ⟨g, cap, cur, hv, _, _, hc, _⟩
        · cases h
        · simp only [Value.slice.injEq] at hv
          omega
      · have h := ho5.cells (g := g5) rfl j (uv (hashAt M q).l[j]) (by simp [wv, hj])
        rw [Addr.add_lit] at h
        simpa using h
      intros
      rename_i w6 h6
      obtain ⟨h6, hE⟩ := h6
      go_upto_block 8 with (fail)
      refine refsum_b8 w6 (w.heap.size + 1) (hashAt M q) _ _ (B := wB.heap.size) hE (by have := hB.size; omega) (hcx w6 (hSB5.trans h6)) ?_
      intros
      rename_i w8 h8
      obtain ⟨h8, hi8⟩ := h8
      have hfin : (hashAt M q).add (rounds (hashAt M q) K256 X 64) = hashAt M (q + 1) := by rw [hashAt_succ, ← HB.out, HX.out]; rfl
      rw [hfin] at hi8
      have hS8 := hsr.trans (((hSB5.trans h6).mono fun _ _ _ => trivial).trans h8)
      clear hfin ho5 hown hb5 hs5 hl5
      go_wp2_with fail
      go_roundw
      case rel => exact ⟨q + 1, by omega, congrArg (Value.int .i64) (by have := HP.out; omega), hS8, hi8⟩
      case measure =>
        have h1 := HP.out
        have h2 := HL.out
        simp [intOf]
        omega
    · obtain rfl : q = n := by omega
      have hcond : decide (64 * q < L) = false := by have := HL.out; simp; omega
      obtain ⟨P, hP⟩ : ∃ P, P = 64 * q := ⟨_, rfl⟩
      rw [← hP] at hcond ⊢
      clear hP
      go_upto_block 10 with (refine wpList_plain rfl fun _ hK => wp_alloc 32 rfl (da zeroDig) zero_dg (hK _ _ ?_))
      refine refsum_b10 wo _ (w.heap.size + 1) (hashAt M q) ((Same.refl _ _).alloc _) hr (hp_new rfl) ?_
      intros
      rename_i w9 h9
      obtain ⟨h9, hi9⟩ := h9
      obtain ⟨D, hD⟩ : ∃ D : Dig, D = SHA m := ⟨_, rfl⟩
      have hDo : (bv (outs (hashAt M q) 32)).toArray = da D := by
        have h := sha_ref m q (by rw [← HMM.out]; exact HN.out)
        rw [← HMM.out] at h
        rw [h, hD]
        rfl
      rw [hDo] at hi9
      have HD := Lib.hid hD
      clear hD hDo
      have hsz : (Try.prog.info? 32).map (·.size) = some (da D).size := by rw [da_size]; kernel_rfl
      have h29 := hsr.trans (h9.mono fun _ _ _ => trivial)
      have hd9 : w9.heap[w.heap.size]? = some (.cells (da zeroDig) 32) := h29.heap hdg (by show w.heap.size ≠ w.heap.size + 1; omega)
      go_wp2_with (first
        | (refine wpList_plain rfl fun _ hK => wp_load_at 32 (.tmp 22) rfl wo.heap.size 0 rfl (da D) (.array 32 5) (fun j u hu => (cell_at _ _ _ _ _ _ hi9).trans (by rw [Nat.zero_add]; simpa using hu)) Try.underlying32 rfl hsz (hK _ _ ?_))
        | (refine wpList_plain rfl fun _ hK => wp_store_row 32 (.tmp 2) (.tmp 283) rfl w.heap.size rfl (da D) rfl _ _ hd9 (by rw [da_size, da_size]) hsz (by rw [da_list]; exact bv_one _) fun w10 hb10 hs10 => hK _ _ ?_))
      refine ret_cell rfl rfl hb10 Try.underlying32 rfl hsz rfl ⟨by rw [HD.out], ?_⟩
      exact hB2.trans ((h29.below_of hB2.size fun k hk => by omega).trans (hs10.below_of (Nat.le_trans hB2.size h29.size) fun k hk => by omega))
end Go.Proofs.Ytgjkobokffiajaa
