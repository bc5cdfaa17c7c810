/- The law ExtractParts returns true at whatever texts. -/
import Derived.Test.YtgjkobokffiajaaKnows
namespace Go.Proofs.Ytgjkobokffiajaa
open Go.RowKit
set_option maxRecDepth 100000
set_option maxHeartbeats 1000000
theorem parts_calls (w : World) (S : Nat → Prop) (a b : Value) (ts us : List (List UInt8)) (ha : Ts w S a ts) (hb : Ts w S b us) (hbig : ∀ t ∈ ts, t.length ≤ 140737488355328) (hbig2 : ∀ t ∈ us, t.length ≤ 140737488355328) :
    Calls Try.prog 3 #[a, b] w fun e w' => KnowsPost w e w' := by
  obtain ⟨A, ca, rfl⟩ := ha.shape
  obtain ⟨B, cb, rfl⟩ := hb.shape
  obtain ⟨_, _, _, hgeta⟩ := ha.get
  obtain ⟨_, _, _, hgetb⟩ := hb.get
  go_enter Try.func3, Try.ntmps3
  go_wp2_with fail
  refine (few_calls w S _ ts 2000 ha hbig (by decide)).mono ?_
  rintro e w1 ⟨b1, rfl, hf1, rfl⟩
  cases b1
  · go_wp2_with fail
    refine (knows_calls _).mono ?_
    rintro e w2 ⟨rfl, hb2⟩
    go_wp2_with fail
    go_ret
    exact ⟨rfl, hb2⟩
  go_wp2_with fail
  refine (few_calls _ S _ us 2000 hb hbig2 (by decide)).mono ?_
  rintro e w1 ⟨b2, rfl, hf2, rfl⟩
  cases b2
  · go_wp2_with fail
    refine (knows_calls _).mono ?_
    rintro e w2 ⟨rfl, hb2⟩
    go_wp2_with fail
    go_ret
    exact ⟨rfl, hb2⟩
  go_wp2_with fail
  refine (part_calls _ S _ _ ts us ha hb hbig hbig2).mono ?_
  rintro e w2 (⟨i, A1, A2, c1, c2, rfl, hd, hba, hbb, hb2⟩ | ⟨rfl, hnd, hb2⟩)
  · have hs2 := Same.all_of_below hb2
    generalize hTX : ts.getD i [] = tx at *
    generalize hUX : us.getD i [] = ux at *
    have HTX := Lib.hid hTX
    have HUX := Lib.hid hUX
    clear hTX hUX
    go_wp2_with fail
    refine (refpart_calls w2 S _ _ ts us (ha.again hs2) (hb.again hs2)).mono ?_
    rintro e w3 ⟨(⟨i', rfl, hd'⟩ | ⟨rfl, hnd⟩), hs3⟩
    rotate_left
    · exact (hd.not hnd).elim
    obtain rfl := hd.unique hd'
    have hs23 := hs2.trans hs3
    obtain ⟨g, o, u, rfl, _, _, hu, hbu⟩ := hgeta i hd.1
    obtain ⟨g2, o2, u2, rfl, _, _, hu2, hbu2⟩ := hgetb i hd.2.1
    have hu := hs23.cell hu trivial
    have hu2 := hs23.cell hu2 trivial
    rw [HTX.out] at hbu
    rw [HUX.out] at hbu2
    have hbu := Bs.again hbu hs23
    have hbu2 := Bs.again hbu2 hs23
    have hba := Bs.again hba hs3
    have hbb := Bs.again hbb hs3
    have hi1 : (i : Int) < (ts.length : Int) := by have := hd.1; omega
    have hi2 : (i : Int) < (us.length : Int) := by have := hd.2.1; omega
    have hi0 : ((i : Int) < 0) = False := by simp
    have hw3 : Below _ _ w3 := hb2.trans (hs3.below_of hb2.size fun _ _ => trivial)
    clear hgeta hgetb hd hd' hf1 hf2 hbig hbig2 ha hb
    go_wp2_with fail
    have q1 : ((str tx).toList == (str tx).toList) = true := by simp
    have q2 : ((str ux).toList == (str ux).toList) = true := by simp
    refine region_tail 22 (by kernel_rfl) (by kernel_rfl) (fun W hWh hWc hWs => ?_)
    have hcu := (Bs.again hbu hWs).conv
    have hcu2 := (Bs.again hbu2 hWs).conv
    have hca := (Bs.again hba hWs).conv
    have hcb := (Bs.again hbb hWs).conv
    have hu' : W.cell? ⟨g, o + i, none⟩ = some u := (hWc _).trans hu
    have hu2' : W.cell? ⟨g2, o2 + i, none⟩ = some u2 := (hWc _).trans hu2
    simp only [List.take_succ_cons, List.take_zero, List.drop_succ_cons, List.drop_zero]
    repeat still_step
    refine wpStill_nil ?_
    go_wp2_with fail
    refine (knows_calls W).mono ?_
    rintro e w5 ⟨rfl, hb5⟩
    go_wp2_with fail
    go_ret
    exact ⟨rfl, (hw3.trans (hWs.below_of hw3.size fun _ _ => trivial)).trans (hb5.mono (Nat.le_trans hw3.size hWs.size))⟩
  · have hs2 := Same.all_of_below hb2
    go_wp2_with fail
    refine (refpart_calls w2 S _ _ ts us (ha.again hs2) (hb.again hs2)).mono ?_
    rintro e w3 ⟨(⟨i', rfl, hd'⟩ | ⟨rfl, hnd'⟩), hs3⟩
    · exact (hd'.not hnd).elim
    go_wp2_with fail
    refine (none_calls w3 0 0 0 0 none none false).mono ?_
    rintro e w4 ⟨rfl, rfl⟩
    go_wp2_with fail
    refine (knows_calls _).mono ?_
    rintro e w5 ⟨rfl, hb5⟩
    go_wp2_with fail
    go_ret
    exact ⟨rfl, (hb2.trans (hs3.below_of hb2.size fun _ _ => trivial)).trans (hb5.mono (Nat.le_trans hb2.size hs3.size))⟩
end Go.Proofs.Ytgjkobokffiajaa
