/- The sum of a hash: padding, length, the digest, as the plain functions say. -/
import Derived.Test.YtgjkobokffiajaaWrite
import Derived.Deep.RegionHeldLaw
namespace Go.Proofs.Ytgjkobokffiajaa
open Go.RowKit
set_option maxRecDepth 100000
set_option maxHeartbeats 1000000
def finish (s : St) (R : List UInt8) (n : Nat) : Dig := ⟨outs (eatAll s (R ++ pad R.length n)).1 32, outs_length _ _⟩
def SHA (m : List UInt8) : Dig := finish (eatAll H256 m).1 (eatAll H256 m).2 m.length
theorem step_plain {P : Program} {ops : Array Oper} {o : Oper} {a : Act} {w : World} {K : Act → World → Prop} {Q : Exit → Act → World → Prop} {E : Prop} (hgd : o.guard = none) (h : o.wp P a w K Q) :
    if Region.wanted o (yielded ops a.tmps) = true then o.wp P a w K Q else E := by
  rw [if_pos (by simp [Region.wanted, hgd])]
  exact h
theorem lenByte_cells (n k : Nat) : (#[Value.int .u8 ((n : Int) * 8 / 2 ^ (8 * (7 - k)) % 256)] : Array Value).toList = bv [lenByte n (7 - k)] := by
  simp only [bv, List.map_cons, List.map_nil, lenByte, UInt8.toNat_ofNat', List.cons.injEq, Value.int.injEq, true_and, and_true]
  norm_cast
theorem info_u81 : (Try.prog.info? 5).map (·.size) = some 1 := by kernel_rfl
theorem outByte_eq (t : St) (k : Nat) (x : UInt32) (h : x = t.l.getD (k / 4) 0) : ((x.toNat : Int) / 2 ^ (24 - 8 * (k % 4)) % 256) = ((outByte t k).toNat : Int) := by
  rw [shr_u32 _ _ (by omega)]
  simp only [outByte, UInt32.toNat_toUInt8, ← h]
  norm_cast
theorem ba_set (l : List UInt8) (j : Nat) (b : UInt8) (h : j < l.length) : splice (bv l).toArray j [.int .u8 b.toNat] = (bv (l.set j b)).toArray := by
  apply Array.ext_getElem?
  intro i
  rw [splice_get (by simp [bv_length]; omega)]
  simp only [List.getElem?_toArray, bv_get, List.length_cons, List.length_nil, List.getElem?_set]
  by_cases h1 : i < j
  · simp [h1, show ¬ j = i by omega]
  · by_cases h2 : i = j
    · subst h2; simp [h]
    · simp [h1, show ¬ i < j + 1 by omega, show ¬ j = i by omega]
theorem zero_dg : (Try.prog.info? 32).map (fun i => (i.zero.map (·.cells), i.size)) = some (some (da zeroDig), (da zeroDig).size) := by kernel_rfl
theorem OwnB.any' {w : World} {base : Nat} {v : Value} {l : List UInt8} (h : OwnB w base v l) : Bs w (fun _ => True) v l := Rd.any h.bs
theorem hashsum_calls (w : World) (B gh : Nat) (s : St) (v : Value) (n : Nat) (R : List UInt8)
    (hh : w.heap[gh]? = some (.cells (hc s.l v n) 123)) (ho : OwnB w B v R) (hR : R.length < 64) (hn : n ≤ 1099511627776) :
    Calls Try.prog 76 #[.pointer (some ⟨gh, 0, none⟩)] w fun e w' => e = .returned (dg (finish s R n)) ∧ Below w.heap.size w w' := by
  have hgl := lt_of_block hh
  obtain ⟨Av, cv, rfl⟩ := ho.shape
  obtain ⟨a, b, c, d, e, f, g, h⟩ := s
  have hc8 : ∀ W : World, Below w.heap.size w W → W.cell? ⟨gh, 0, none⟩ = some (uv a) ∧ W.cell? ⟨gh, 1, none⟩ = some (uv b) ∧ W.cell? ⟨gh, 2, none⟩ = some (uv c) ∧ W.cell? ⟨gh, 3, none⟩ = some (uv d) ∧ W.cell? ⟨gh, 4, none⟩ = some (uv e) ∧ W.cell? ⟨gh, 5, none⟩ = some (uv f) ∧ W.cell? ⟨gh, 6, none⟩ = some (uv g) ∧ W.cell? ⟨gh, 7, none⟩ = some (uv h) ∧ W.cell? ⟨gh, 8, none⟩ = some (.slice Av R.length cv) ∧ W.cell? ⟨gh, 9, none⟩ = some (.int .i64 (n : Int)) := fun W hW => by
    have hb := (Same.all_of_below hW).heap hh trivial
    exact ⟨(cell_at _ _ _ _ _ _ hb).trans rfl, (cell_at _ _ _ _ _ _ hb).trans rfl, (cell_at _ _ _ _ _ _ hb).trans rfl, (cell_at _ _ _ _ _ _ hb).trans rfl, (cell_at _ _ _ _ _ _ hb).trans rfl, (cell_at _ _ _ _ _ _ hb).trans rfl, (cell_at _ _ _ _ _ _ hb).trans rfl, (cell_at _ _ _ _ _ _ hb).trans rfl, (cell_at _ _ _ _ _ _ hb).trans rfl, (cell_at _ _ _ _ _ _ hb).trans rfl⟩
  have hb0 := hc8 w (Below.refl _ _)
  go_enter Try.func76, Try.ntmps76
  go_wp2_with fail
  go_region_held_law (fun W => W.cell? ⟨gh, 0, none⟩ = some (uv a) ∧ W.cell? ⟨gh, 1, none⟩ = some (uv b) ∧ W.cell? ⟨gh, 2, none⟩ = some (uv c) ∧ W.cell? ⟨gh, 3, none⟩ = some (uv d) ∧ W.cell? ⟨gh, 4, none⟩ = some (uv e) ∧ W.cell? ⟨gh, 5, none⟩ = some (uv f) ∧ W.cell? ⟨gh, 6, none⟩ = some (uv g) ∧ W.cell? ⟨gh, 7, none⟩ = some (uv h) ∧ W.cell? ⟨gh, 8, none⟩ = some (.slice Av R.length cv)) (go_keep)
    (first | (refine step_append_b rfl (.tmp 16) (.tmp 20) rfl (w.heap.size + 1) [] R (fun _ => True) (OwnB.lit hp_new (by rfl) rfl (by simp) (by decide)) (Rd.any (ho.bs.same ((((Same.refl (fun _ => True) w).alloc _).drew).alloc _) fun _ _ _ => trivial)) (by simp; omega) (by simp) ?_; intro v1 w1 ho1 hg1 hat1; rw [List.nil_append] at ho1; obtain ⟨A1, c1, hv1⟩ := ho1.shape; subst hv1; have hs1 := (((((Below.refl w.heap.size w).alloc (Nat.le_refl _) (.cells (da zeroDig) 32)).drew).alloc (by simp) (.cells #[] 5)).grown hg1 (by simp; omega) (fun k hk => by have h := Option.some.inj (show some (w.heap.size + 1) = some k from hk); omega)); have hc1 := hc8 w1 hs1))
  have hwb := hs1.alloc (show w.heap.size ≤ w1.heap.size from hs1.size) (.cells (hc (St.mk a b c d e f g h).l (.slice A1 R.length c1) 0) 123)
  have hz1 : w.heap.size < w1.heap.size := by have := hg1.size; simp at this; omega
  have ht2 : (w1.alloc (.cells (hc (St.mk a b c d e f g h).l (.slice A1 R.length c1) 0) 123)).heap[w.heap.size]? = some (.cells (da zeroDig) 32) := hp_old ((Same.of_grown hg1).heap (hp_old (hp_drew hp_new)) (fun h => by have h := Option.some.inj (show some w.heap.size = some (w.heap.size + 1) from h); omega))
  have hoG : OwnB (w1.alloc (.cells (hc (St.mk a b c d e f g h).l (.slice A1 R.length c1) 0) 123)) (w.heap.size + 1) (.slice A1 R.length c1) R := ho1.same ((Same.refl (fun _ => True) _).alloc _) fun _ _ => trivial
  have hA1 : ∀ k, (Value.slice A1 R.length c1).ownBlock = some k → k < w1.heap.size := fun k hk => (ho1.lt k hk).2
  have hhG : (w1.alloc (.cells (hc (St.mk a b c d e f g h).l (.slice A1 R.length c1) 0) 123)).heap[w1.heap.size]? = some (.cells (hc (St.mk a b c d e f g h).l (.slice A1 R.length c1) 0) 123) := hp_new
  have hzG := World.size_alloc w1 (.cells (hc (St.mk a b c d e f g h).l (.slice A1 R.length c1) 0) 123)
  clear hg1 hat1 ho1 hc1 hs1
  go_wp2_with fail
  have hbel : ∀ W, Below (w1.heap.size + 1) (w1.alloc (.cells (hc (St.mk a b c d e f g h).l (.slice A1 R.length c1) 0) 123)) W → Below w.heap.size w W := fun W hW => hwb.trans (hW.mono (by omega))
  obtain ⟨wG, hwG⟩ : ∃ W, W = w1.alloc (.cells (hc (St.mk a b c d e f g h).l (.slice A1 R.length c1) 0) 123) := ⟨_, rfl⟩
  rw [← hwG] at hwb ht2 hoG hhG hzG hbel
  rw [show w1.alloc (.cells #[uv a, uv b, uv c, uv d, uv e, uv f, uv g, uv h, .slice A1 R.length c1, .int .i64 0] 123) = wG from hwG.symm]
  clear hwG
  generalize w1.heap.size = G at *
  have hp0 : OwnB (wG.alloc (.cells #[.int .u8 128] 5)) (G + 1) (.slice (some ⟨G + 1, 0, none⟩) 1 1) (padZ 0) := OwnB.lit (hp_new (by omega)) (by rfl) rfl (Nat.le_refl _) (by decide)
  have hbG : Below (G + 1) wG (wG.alloc (.cells #[.int .u8 128] 5)) := (Below.refl _ _).alloc (by omega) _
  go_loopw [4] (fun pv wr => ∃ (j : Nat) (A : Option Addr) (cp : Nat), pv = .slice A (j + 1) cp ∧ j ≤ zerosFor R.length ∧ OwnB wr (G + 1) (.slice A (j + 1) cp) (padZ j) ∧ Below (G + 1) wG wr) (fun pv _ => match pv with | .slice _ m _ => zerosFor R.length + 1 - m | _ => 0)
  case atStart => exact ⟨0, _, _, rfl, Nat.zero_le _, hp0, hbG⟩
  case round =>
    obtain ⟨j, A, cp, rfl, hj, hpo, hpb⟩ := hrel
    have hcr := hc8 wr (hbel wr hpb)
    have hzf : zerosFor R.length = (64 - (R.length + 9) % 64) % 64 := rfl
    have hj64 : j < 64 := by omega
    have hjb : (j : Int) < 64 := by omega
    have hRb : (R.length : Int) < 64 := by omega
    by_cases hjt : j < zerosFor R.length
    · have hcond : (((R.length : Int) + (↑j + 1) + 8) % 64 != 0) = true := by
        simp only [bne_iff_ne, ne_eq]; omega
      have hzl : zerosFor R.length < 64 := by omega
      clear hzf
      go_wp2_with (first
        | (refine list_append_b rfl (.tmp 36) (.tmp 37) rfl (G + 1) (padZ j) [0] (fun _ => True) (hpo.same ((Same.refl (fun _ => True) _).alloc _) fun _ _ => trivial) (OwnB.lit (base := 0) hp_new (by rfl) rfl (Nat.zero_le _) (by decide)).any' (by rw [padZ_length]; simp; omega) (by have := hpb.size; simp; omega) fun v2 w2 ho2 hg2 hat2 => ?_; rw [← padZ_succ] at ho2; obtain ⟨A2, c2, hv2⟩ := ho2.shape; rw [padZ_length] at hv2; subst hv2))
      go_roundw
      case rel => exact ⟨j + 1, A2, c2, rfl, by omega, ho2, (hpb.alloc (by have := hpb.size; omega) _).grown hg2 (by have := hpb.size; simp; omega) fun k hk => (hpo.lt k hk).1⟩
      case measure => simp; omega
    · have hjz : j = zerosFor R.length := by omega
      have hcond : (((R.length : Int) + (↑j + 1) + 8) % 64 != 0) = false := by
        simp only [bne_eq_false_iff_eq]; omega
      clear hzf
      have HJ := Lib.hid hjz
      clear hjz hj hjt
      go_wp2_with fail
      obtain ⟨wo, rfl⟩ : ∃ wo, wo = wr := ⟨_, rfl⟩
      have hpo0 := hpo; have hpb0 := hpb
      clear hpo hpb hcr
      go_loopw [4, 5] (fun pv iv wr => ∃ (k : Nat) (A : Option Addr) (cp : Nat), pv = .slice A (j + 1 + k) cp ∧ iv = .int .i64 (7 - (k : Int)) ∧ k ≤ 8 ∧ OwnB wr (G + 1) (.slice A (j + 1 + k) cp) (padZ j ++ lenBytes n k) ∧ Below (G + 1) wG wr) (fun _ iv _ => (intOf iv + 1).toNat)
      case atStart => exact ⟨0, A, cp, rfl, rfl, by omega, by simpa [lenBytes] using hpo0, hpb0⟩
      case round =>
        obtain ⟨k, A, cp, rfl, rfl, hk, hpo, hpb⟩ := hrel
        have hcr := hc8 wr (hbel wr hpb)
        by_cases hkt : k < 8
        · have hcond : decide ((k : Int) ≤ 7) = true := by simp; omega
          go_wp2_with (first
            | (refine list_append_b rfl (.tmp 43) (.tmp 54) rfl (G + 1) (padZ j ++ lenBytes n k) [lenByte n (7 - k)] (fun _ => True) (hpo.same ((Same.refl (fun _ => True) _).alloc _) fun _ _ => trivial) (OwnB.lit (base := 0) (n := 1) hp_new (lenByte_cells n k) rfl (Nat.zero_le _) (by decide)).any' (by simp [padZ_length, lenBytes_length]; omega) (by have := hpb.size; simp; omega) fun v2 w2 ho2 hg2 hat2 => ?_; rw [List.append_assoc, ← lenBytes_succ] at ho2; obtain ⟨A2, c2, hv2⟩ := ho2.shape; rw [List.length_append, padZ_length, lenBytes_length] at hv2; subst hv2))
          go_roundw
          case rel => exact ⟨k + 1, A2, c2, rfl, by go_num, by omega, ho2, (hpb.alloc (by have := hpb.size; omega) _).grown hg2 (by have := hpb.size; simp; omega) fun k hk => (hpo.lt k hk).1⟩
          case measure => simp [intOf]; omega
        · have hcond : decide ((k : Int) ≤ 7) = false := by simp; omega
          have hk8 : k = 8 := by omega
          have HK := Lib.hid hk8
          clear hk8 hkt hk
          go_wp2_with fail
          have hpl : padZ j ++ lenBytes n k = pad R.length n := by rw [HK.out, HJ.out]; rfl
          have hlen : (pad R.length n).length = j + 1 + k := by rw [← hpl]; simp [padZ_length, lenBytes_length]
          rw [hpl] at hpo
          refine (write_calls wr (fun q => (Value.slice A (j + 1 + k) cp).ownBlock = some q) (w.heap.size + 1) G (St.mk a b c d e f g h) (.slice A1 R.length c1) 0 R (.slice A (j + 1 + k) cp) (pad R.length n) (by omega) (by have := hpb.size; omega) ((Same.of_below hpb).heap hhG (Nat.lt_succ_self G))
            (hoG.same (Same.of_below hpb) fun q hq => Nat.lt_succ_of_lt (hA1 q hq)) (fun h => Nat.lt_irrefl _ (hA1 _ h)) hpo.bs (fun q hq h => by have := (hpo.lt q hq).1; omega) (by rw [hlen, HK.out]; omega) (by rw [hlen, HK.out]; omega)).mono ?_
          rintro e w5 ⟨v5, rfl, hh5, ho5, hne5, hb5⟩
          have ht5 := (Same.of_below hb5).heap ((Same.of_below hpb).heap ht2 (show w.heap.size < G + 1 by omega)) (Nat.lt_succ_self _)
          have hbw5 : Below w.heap.size w w5 := (hbel wr hpb).trans (hb5.mono (Nat.le_succ _))
          have hfin : dg (finish (St.mk a b c d e f g h) R n) = .agg (bv (outs (eatAll (St.mk a b c d e f g h) (R ++ pad R.length n)).1 32)).toArray := rfl
          generalize (eatAll (St.mk a b c d e f g h) (R ++ pad R.length n)).1 = t at *
          have HF := Lib.hid hfin
          clear hfin ho5 hb5 hpb hpo hpl hhG hoG ht2 hA1 hcr
          obtain ⟨ta, tb, tc, td, te, tf, tg, th⟩ := t
          have hH5 : w.heap.size < w5.heap.size := lt_of_block ht5
          have hG5 : G < w5.heap.size := lt_of_block hh5
          go_wp2_with (refine wpList_plain rfl fun _ hK => wp_alloc 32 rfl (da zeroDig) zero_dg (hK _ _ ?_))
          go_loopw [59] (fun iv wr => ∃ k : Nat, iv = .int .i64 (k : Int) ∧ k ≤ 32 ∧ wr.heap[w5.heap.size]? = some (.cells (bv (outs ⟨ta, tb, tc, td, te, tf, tg, th⟩ k ++ List.replicate (32 - k) 0)).toArray 32) ∧ Same (fun q => q < w5.heap.size) w5 wr) (fun iv _ => 32 - (intOf iv).toNat)
          case atStart => exact ⟨0, rfl, by omega, hp_new, (Same.refl _ _).alloc _⟩
          case round =>
            obtain ⟨k, rfl, hk, hb6, hs6⟩ := hrel
            by_cases hkt : k < 32
            · have hcond : decide ((k : Int) < 32) = true := by simp; omega
              obtain ⟨x, hx⟩ : ∃ x, x = (St.mk ta tb tc td te tf tg th).l.getD (k / 4) 0 := ⟨_, rfl⟩
              have hcx : wr.cell? ⟨G, k / 4, none⟩ = some (uv x) := by
                have hk4 : k / 4 < (St.mk ta tb tc td te tf tg th).l.length := by rw [St.l_length]; omega
                rw [cell_at _ _ _ _ _ _ (hs6.heap hh5 hG5), hc_state _ _ _ _ hk4, hx, List.getD_eq_getElem?_getD, List.getElem?_eq_getElem hk4]
                rfl
              have HX := Lib.hid hx
              clear hx
              go_wp2_with (refine wpList_plain rfl fun _ hK => wp_store_one 5 (.tmp 76) (.tmp 75) rfl w5.heap.size k rfl (.int .u8 ((outByte ⟨ta, tb, tc, td, te, tf, tg, th⟩ k).toNat : Int)) (congrArg (Value.int .u8) (outByte_eq _ k x HX.out)) rfl _ _ hb6 info_u81 (by simp [bv_length, outs_length]; omega) fun w7 hb7 hs7 => hK _ _ ?_)
              go_roundw
              case rel =>
                refine ⟨k + 1, by go_num, by omega, ?_, hs6.trans (hs7.mono fun q _ h => Nat.ne_of_lt h)⟩
                rw [hb7, ba_set _ _ _ (by simp [outs_length]; omega), outs_succ, show 32 - k = (32 - (k + 1)) + 1 by omega, List.replicate_succ]
                rw [List.set_append_right _ _ (by rw [outs_length]; exact Nat.le_refl _), outs_length]
                simp
              case measure => simp [intOf]; omega
            · have hcond : decide ((k : Int) < 32) = false := by simp; omega
              obtain rfl : k = 32 := by omega
              obtain ⟨X, hX⟩ : ∃ X : Array Value, X = (bv (outs ⟨ta, tb, tc, td, te, tf, tg, th⟩ 32 ++ List.replicate (32 - 32) 0)).toArray := ⟨_, rfl⟩
              rw [← hX] at hb6
              have hXs : X.size = 32 := by rw [hX]; simp [bv_length, outs_length]
              have hX1 : ∀ u ∈ X.toList, u.oneCell' = true := by rw [hX]; exact bv_one _
              have hXe : Value.agg X = dg (finish (St.mk a b c d e f g h) R n) := by rw [HF.out, hX]; simp
              have HXE := Lib.hid hXe
              clear hX hXe
              have hsz : (Try.prog.info? 32).map (·.size) = some X.size := by rw [hXs]; kernel_rfl
              have ht6 := hs6.heap ht5 hH5
              go_wp2_with (first
                | (refine wpList_plain rfl fun _ hK => wp_load_at 32 (.tmp 6) rfl w5.heap.size 0 rfl X (.array 32 5) (fun j u hu => (cell_at _ _ _ _ _ _ hb6).trans (by rw [Nat.zero_add]; simpa using hu)) Try.underlying32 rfl hsz (hK _ _ ?_))
                | (refine wpList_plain rfl fun _ hK => wp_store_row 32 (.tmp 2) (.tmp 78) rfl w.heap.size rfl X rfl _ _ ht6 (by rw [hXs]; rfl) hsz hX1 fun w8 hb8 hs8 => hK _ _ ?_))
              refine ret_cell rfl rfl hb8 Try.underlying32 rfl hsz rfl ⟨by rw [HXE.out], ?_⟩
              exact hbw5.trans ((hs6.below_of (by omega) fun q h => by omega).trans (hs8.below_of (by have := hs6.size; omega) fun q _ h => by omega))
end Go.Proofs.Ytgjkobokffiajaa
