/- The reference hash: its keys, and the padded text. -/
import Derived.Test.YtgjkobokffiajaaRefSha
import Derived.Test.YtgjkobokffiajaaSteps
import Derived.Deep.CutBlock
namespace Go.Proofs.Ytgjkobokffiajaa
open Go.RowKit
set_option maxRecDepth 100000
set_option maxHeartbeats 1000000
theorem lenByte_zero (n : Nat) : IntKind.u8.wrap ((n : Int) % 32 * 8) = ((lenByte n 0).toNat : Int) := by
  simp only [lenByte, IntKind.wrap, IntKind.bits, IntKind.signed, Nat.mul_zero, Nat.pow_zero, Nat.div_one, UInt8.toNat_ofNat']
  simp
  omega
theorem lenByte_low_int (n i : Nat) : IntKind.u8.wrap (((n / 32 / 256 ^ i : Nat) : Int) % 256) = ((lenByte n (i + 1)).toNat : Int) := by
  rw [lenByte_low]
  generalize n / 32 / 256 ^ i = q
  simp only [IntKind.wrap, IntKind.bits, IntKind.signed, UInt8.toNat_ofNat']
  simp
theorem u8_cells (x : Int) (b : UInt8) (h : x = (b.toNat : Int)) : (#[Value.int .u8 x] : Array Value).toList = bv [b] := by subst h; rfl
def lenOf : Value → Nat | .slice _ n _ => n | _ => 0
theorem OwnB.nil (w : World) (base : Nat) : OwnB w base (.slice none 0 0) [] := ⟨rfl, .inl ⟨rfl, rfl⟩⟩
theorem refpad_calls (w : World) (S : Nat → Prop) (v : Value) (m : List UInt8) (hb : Bs w S v m) (hm : m.length ≤ 1000000) :
    Calls Try.prog 70 #[v] w fun e w' => ∃ u, e = .returned u ∧ OwnB w' w.heap.size u (m ++ pad (m.length % 64) m.length) ∧ Below w.heap.size w w' := by
  obtain ⟨A, c, rfl⟩ := hb.shape
  have hb0 : Bs w (fun _ => True) (.slice A m.length c) m := Rd.any hb
  obtain ⟨z, hZ⟩ : ∃ z, z = zerosFor (m.length % 64) := ⟨_, rfl⟩
  have hz0 : z ≤ 64 := by rw [hZ]; exact zerosFor_le _
  have HPL : Hid (∀ j, j ≤ z → ((m.length + 1 + j) % 64 = 56 ↔ j = z)) := Lib.hid (by rw [hZ]; exact fun j hj => refpad_len m.length j hj)
  have HZ := Lib.hid hZ.symm
  clear hZ
  go_enter Try.func70, Try.ntmps70
  go_wp2_with (first
    | (refine app_b rfl (.tmp 8) (.tmp 9) rfl _ _ rfl rfl w.heap.size [] m m.length (by simp) (OwnB.lit (by first | exact hp_new rfl | exact hp_new (World.size_alloc _ _).symm | exact hp_new (by first | (simp only [World.size_alloc, World.size_drew]; done) | fail) | assumption | (refine hp_old ?_; first | exact hp_new rfl | exact hp_new (World.size_alloc _ _).symm | exact hp_new (by first | (simp only [World.size_alloc, World.size_drew]; done) | fail) | assumption | (refine hp_old ?_; first | exact hp_new rfl | exact hp_new (World.size_alloc _ _).symm | exact hp_new (by first | (simp only [World.size_alloc, World.size_drew]; done) | fail) | assumption | (refine hp_old ?_; first | exact hp_new rfl | exact hp_new (World.size_alloc _ _).symm | exact hp_new (by first | (simp only [World.size_alloc, World.size_drew]; done) | fail) | assumption | (refine hp_old ?_; first | exact hp_new rfl | exact hp_new (World.size_alloc _ _).symm | exact hp_new (by first | (simp only [World.size_alloc, World.size_drew]; done) | fail) | assumption | fail) | (refine hp_drew ?_; first | exact hp_new rfl | assumption | fail) | fail) | (refine hp_drew ?_; first | exact hp_new rfl | assumption | fail) | fail) | (refine hp_drew ?_; first | exact hp_new rfl | assumption | fail) | fail) | (refine hp_drew ?_; first | exact hp_new rfl | assumption | fail) | fail) (by rfl) rfl (Nat.le_refl _) (by decide)) (fun _ => True) (Bs.again hb0 ((Same.refl _ _).alloc _)) (by omega) (by simp) fun A2 c2 w2 ho2 hb2 hs2 hl2 => ?_
       have hb2 := ((Below.refl w.heap.size w).alloc (Nat.le_refl _) _).trans hb2)
    | (refine app_b rfl (.tmp 10) (.tmp 11) rfl _ _ rfl rfl w.heap.size ([] ++ m) [128] (m.length + 1) (by simp) (own_ext ho2 ((Same.refl _ _).alloc _)) (fun _ => True) (OwnB.lit (base := 0) (by first | exact hp_new rfl | exact hp_new (World.size_alloc _ _).symm | exact hp_new (by first | (simp only [World.size_alloc, World.size_drew]; done) | fail) | assumption | (refine hp_old ?_; first | exact hp_new rfl | exact hp_new (World.size_alloc _ _).symm | exact hp_new (by first | (simp only [World.size_alloc, World.size_drew]; done) | fail) | assumption | (refine hp_old ?_; first | exact hp_new rfl | exact hp_new (World.size_alloc _ _).symm | exact hp_new (by first | (simp only [World.size_alloc, World.size_drew]; done) | fail) | assumption | (refine hp_old ?_; first | exact hp_new rfl | exact hp_new (World.size_alloc _ _).symm | exact hp_new (by first | (simp only [World.size_alloc, World.size_drew]; done) | fail) | assumption | (refine hp_old ?_; first | exact hp_new rfl | exact hp_new (World.size_alloc _ _).symm | exact hp_new (by first | (simp only [World.size_alloc, World.size_drew]; done) | fail) | assumption | fail) | (refine hp_drew ?_; first | exact hp_new rfl | assumption | fail) | fail) | (refine hp_drew ?_; first | exact hp_new rfl | assumption | fail) | fail) | (refine hp_drew ?_; first | exact hp_new rfl | assumption | fail) | fail) | (refine hp_drew ?_; first | exact hp_new rfl | assumption | fail) | fail) (by rfl) rfl (Nat.zero_le _) (by decide)).any' (by omega) (by have := hb2.size; simp; omega) fun A3 c3 w3 ho3 hb3 hs3 hl3 => ?_
       have hb3 := (hb2.alloc hb2.size _).trans hb3))
  have ho3 : OwnB w3 w.heap.size (.slice A3 (m.length + 1) c3) (m ++ padZ 0) := by simpa [padZ] using ho3
  clear ho2 hs2 hl2 hs3 hl3 hb2
  go_loopw [3] (fun o wr => ∃ j : Nat, j ≤ z ∧ OwnB wr w.heap.size o (m ++ padZ j) ∧ Below w.heap.size w wr) (fun o wr => 2000000 - lenOf o)
  case atStart => exact ⟨0, by omega, ho3, hb3⟩
  case round =>
    obtain ⟨j, hj, hpo, hpb⟩ := hrel
    obtain ⟨A1, c1, rfl⟩ := hpo.shape
    have hlen : (m ++ padZ j).length = m.length + 1 + j := by rw [List.length_append, padZ_length]; omega
    obtain ⟨L, hL⟩ : ∃ L, L = m.length + 1 + j := ⟨_, rfl⟩
    rw [← hL] at hlen
    rw [hlen] at hpo ⊢
    have HL := Lib.hid hL
    have hLi : (L : Int) ≤ 2000000 := by omega
    clear hlen
    by_cases hjz : j = z
    · subst hjz
      have h56 : (L : Int) % 64 = 56 := by have := (HPL.out j (Nat.le_refl _)).2 rfl; omega
      have hcond : ((L : Int) % 64 != 56) = false := by rw [h56]; rfl
      clear hL h56
      have hml : (m.length : Int) ≤ 1000000 := by omega
      have hlow : IntKind.u8.wrap ((m.length : Int) % 32 * 8) = ((lenByte m.length 0).toNat : Int) := lenByte_zero _
      go_wp2_with (refine app_b rfl (.tmp 27) (.tmp 30) rfl _ _ rfl rfl w.heap.size [] [lenByte m.length 0] 1 rfl (OwnB.nil _ _) (fun _ => True) (OwnB.lit (base := 0) (n := 1) (by first | exact hp_new rfl | exact hp_new (World.size_alloc _ _).symm | exact hp_new (by first | (simp only [World.size_alloc, World.size_drew]; done) | fail) | assumption | (refine hp_old ?_; first | exact hp_new rfl | exact hp_new (World.size_alloc _ _).symm | exact hp_new (by first | (simp only [World.size_alloc, World.size_drew]; done) | fail) | assumption | (refine hp_old ?_; first | exact hp_new rfl | exact hp_new (World.size_alloc _ _).symm | exact hp_new (by first | (simp only [World.size_alloc, World.size_drew]; done) | fail) | assumption | (refine hp_old ?_; first | exact hp_new rfl | exact hp_new (World.size_alloc _ _).symm | exact hp_new (by first | (simp only [World.size_alloc, World.size_drew]; done) | fail) | assumption | (refine hp_old ?_; first | exact hp_new rfl | exact hp_new (World.size_alloc _ _).symm | exact hp_new (by first | (simp only [World.size_alloc, World.size_drew]; done) | fail) | assumption | fail) | (refine hp_drew ?_; first | exact hp_new rfl | assumption | fail) | fail) | (refine hp_drew ?_; first | exact hp_new rfl | assumption | fail) | fail) | (refine hp_drew ?_; first | exact hp_new rfl | assumption | fail) | fail) | (refine hp_drew ?_; first | exact hp_new rfl | assumption | fail) | fail) (by rfl) rfl (Nat.zero_le _) (by decide)).any' (by decide) (by have := hpb.size; simp; omega) fun A4 c4 w4 ho4 hb4 hs4 hl4 => ?_)
      have hbw := (hpb.alloc hpb.size _).trans hb4
      rw [List.nil_append] at ho4
      obtain ⟨ho4', hap4⟩ := own_by (vs := .slice none 0 0) (own_ext hpo ((Same.refl _ _).alloc _)) (fun _ _ h => by cases h) hs4 hl4
      have ho4' : OwnB w4 w.heap.size (.slice A1 L c1) (m ++ padZ j) := ho4'
      have hlb : lowBytes m.length 1 = [lenByte m.length 0] := by rw [lowBytes_succ]; rfl
      rw [← hlb] at ho4
      clear hlow hlb hcond hs4 hl4 hb4
      obtain ⟨wo, rfl⟩ : ∃ wo : World, wo = wr := ⟨_, rfl⟩
      go_loopw [4, 5, 7] (fun q t i wr => ∃ k : Nat, k ≤ 7 ∧ i = .int .i64 (k : Int) ∧ (∃ x : Int, q = .int .i64 x ∧ x = ((m.length / 32 / 256 ^ k : Nat) : Int)) ∧ OwnB wr w.heap.size t (lowBytes m.length (k + 1)) ∧ Apart (.slice A1 L c1) t ∧
        OwnB wr w.heap.size (.slice A1 L c1) (m ++ padZ j) ∧ Below w.heap.size w wr) (fun _ _ i _ => 7 - (intOf i).toNat)
      case atStart => exact ⟨0, by omega, rfl, ⟨_, rfl, by simp⟩, ho4, hap4, ho4', hbw⟩
      case round =>
        obtain ⟨k, hk, rfl, ⟨x, rfl, hx⟩, hto, hap, hpo, hpb⟩ := hrel
        obtain ⟨A6, c6, rfl⟩ := hto.shape
        have hz2 := hpb.size
        by_cases hk7 : k < 7
        · have hcond : decide ((k : Int) < 7) = true := by simp; omega
          have hbyte := lenByte_low_int m.length k
          have hdiv : (((m.length / 32 / 256 ^ k : Nat) : Int) / 256) = ((m.length / 32 / 256 ^ (k + 1) : Nat) : Int) := by rw [Nat.pow_succ, ← Nat.div_div_eq_div_mul]; omega
          have hq1 : x ≤ 1000000 := by rw [hx]; exact Int.ofNat_le.2 (Nat.le_trans (Nat.div_le_self _ _) (by omega : m.length / 32 ≤ 1000000))
          have hq0 : 0 ≤ x := by rw [hx]; exact Int.natCast_nonneg _
          rw [← hx] at hbyte hdiv
          have HQ1 := Lib.hid hdiv
          clear hdiv hx
          have hlow := lowBytes_succ m.length (k + 1)
          generalize lenByte m.length (k + 1) = lb at *
          rw [lowBytes_length] at hto hap ⊢
          have HL1 := Lib.hid hlow
          clear hlow
          go_wp2_with (refine app_b rfl (.tmp 39) (.tmp 40) rfl _ _ rfl rfl w.heap.size [lb] (lowBytes m.length (k + 1)) (k + 2) (by rw [lowBytes_length]; simp; omega) (OwnB.lit (n := 1) (by first | exact hp_new rfl | exact hp_new (World.size_alloc _ _).symm | exact hp_new (by first | (simp only [World.size_alloc, World.size_drew]; done) | fail) | assumption | (refine hp_old ?_; first | exact hp_new rfl | exact hp_new (World.size_alloc _ _).symm | exact hp_new (by first | (simp only [World.size_alloc, World.size_drew]; done) | fail) | assumption | (refine hp_old ?_; first | exact hp_new rfl | exact hp_new (World.size_alloc _ _).symm | exact hp_new (by first | (simp only [World.size_alloc, World.size_drew]; done) | fail) | assumption | (refine hp_old ?_; first | exact hp_new rfl | exact hp_new (World.size_alloc _ _).symm | exact hp_new (by first | (simp only [World.size_alloc, World.size_drew]; done) | fail) | assumption | (refine hp_old ?_; first | exact hp_new rfl | exact hp_new (World.size_alloc _ _).symm | exact hp_new (by first | (simp only [World.size_alloc, World.size_drew]; done) | fail) | assumption | fail) | (refine hp_drew ?_; first | exact hp_new rfl | assumption | fail) | fail) | (refine hp_drew ?_; first | exact hp_new rfl | assumption | fail) | fail) | (refine hp_drew ?_; first | exact hp_new rfl | assumption | fail) | fail) | (refine hp_drew ?_; first | exact hp_new rfl | assumption | fail) | fail) (by rfl) rfl hz2 (by decide)) (fun _ => True) (Bs.again hto.any' ((Same.refl _ _).alloc _)) (by omega) (by simp; omega) fun A7 c7 w7 ho7 hb7 hs7 hl7 => ?_)
          have hb7 := (hpb.alloc hpb.size _).trans hb7
          obtain ⟨hpo7, hap7⟩ := own_by (own_ext hpo ((Same.refl _ _).alloc _)) (fun k hk h => by have h1 := (hpo.lt k hk).2; have h2 := Option.some.inj (show some wr.heap.size = some k from h); omega) hs7 hl7
          go_roundw
          case rel => exact ⟨k + 1, by omega, by go_num, ⟨_, rfl, HQ1.out⟩, (by rw [HL1.out]; exact ho7), hap7, hpo7, hb7⟩
          case measure => simp [intOf]; omega
        · obtain rfl : k = 7 := by omega
          go_wp2_with (refine app_b rfl (.tmp 44) (.tmp 45) rfl _ _ rfl rfl w.heap.size (m ++ padZ j) (lowBytes m.length 8) (m.length + j + 9) (by rw [lowBytes_length, List.length_append, padZ_length]; omega) hpo (fun _ => True) hto.any' (by omega) hz2 fun A8 c8 w8 ho8 hb8 hs8 hl8 => ?_)
          go_ret
          refine ⟨_, rfl, ?_, hpb.trans hb8⟩
          rw [lowBytes_eight, List.append_assoc] at ho8
          unfold pad
          rw [HZ.out]
          exact ho8
    · have h56 : (L : Int) % 64 ≠ 56 := by have := (HPL.out j hj).1; omega
      have hcond : ((L : Int) % 64 != 56) = true := by simpa using h56
      clear hL h56
      go_wp2_with (refine app_b rfl (.tmp 17) (.tmp 18) rfl _ _ rfl rfl w.heap.size (m ++ padZ j) [0] (L + 1) (by rw [List.length_append, padZ_length]; simp; have := HL.out; omega) (own_ext hpo ((Same.refl _ _).alloc _)) (fun _ => True) (OwnB.lit (base := 0) (by first | exact hp_new rfl | exact hp_new (World.size_alloc _ _).symm | exact hp_new (by first | (simp only [World.size_alloc, World.size_drew]; done) | fail) | assumption | (refine hp_old ?_; first | exact hp_new rfl | exact hp_new (World.size_alloc _ _).symm | exact hp_new (by first | (simp only [World.size_alloc, World.size_drew]; done) | fail) | assumption | (refine hp_old ?_; first | exact hp_new rfl | exact hp_new (World.size_alloc _ _).symm | exact hp_new (by first | (simp only [World.size_alloc, World.size_drew]; done) | fail) | assumption | (refine hp_old ?_; first | exact hp_new rfl | exact hp_new (World.size_alloc _ _).symm | exact hp_new (by first | (simp only [World.size_alloc, World.size_drew]; done) | fail) | assumption | (refine hp_old ?_; first | exact hp_new rfl | exact hp_new (World.size_alloc _ _).symm | exact hp_new (by first | (simp only [World.size_alloc, World.size_drew]; done) | fail) | assumption | fail) | (refine hp_drew ?_; first | exact hp_new rfl | assumption | fail) | fail) | (refine hp_drew ?_; first | exact hp_new rfl | assumption | fail) | fail) | (refine hp_drew ?_; first | exact hp_new rfl | assumption | fail) | fail) | (refine hp_drew ?_; first | exact hp_new rfl | assumption | fail) | fail) (by rfl) rfl (Nat.zero_le _) (by decide)).any' (by omega) (by have := hpb.size; simp; omega) fun A4 c4 w4 ho4 hb4 hs4 hl4 => ?_)
      rw [List.append_assoc, ← padZ_succ] at ho4
      go_roundw
      case rel => exact ⟨j + 1, by omega, ho4, (hpb.alloc hpb.size _).trans hb4⟩
      case measure => show 2000000 - (L + 1) < 2000000 - L; have := HL.out; omega
end Go.Proofs.Ytgjkobokffiajaa
