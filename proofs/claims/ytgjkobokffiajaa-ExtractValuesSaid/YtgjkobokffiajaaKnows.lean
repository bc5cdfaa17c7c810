/- The check on known values returns true. -/
import Derived.Test.YtgjkobokffiajaaText
import Derived.Lib.SlBytesConst
namespace Go.Proofs.Ytgjkobokffiajaa
open Go.RowKit
set_option maxRecDepth 100000
set_option maxHeartbeats 1000000
/-- Texts of a literal. -/
theorem Ts.lit {w : World} {S : Nat → Prop} {g n : Nat} {cs : Array Value} {ts : List (List UInt8)} {t : TypeId} {fr : Nat × Nat} (hb : w.heap[g]? = some (.cells cs t fr)) (hg : S g) (hn : ts.length = n) (hl : cs.size = n) (hm : n ≤ maxLen)
    (h : ∀ i (h : i < ts.length) u, cs[i]? = some u → Bs w S u ts[i]) : Ts w S (.slice (some ⟨g, 0, none⟩) n n) ts := by
  subst hn
  refine ⟨cs.toList, by simp [hl], ?_, fun i hi u hu => h i hi u (by simpa using hu)⟩
  exact Rd.of_block hb hg (by omega) hm
theorem Bs.shape {w : World} {S : Nat → Prop} {v : Value} {l : List UInt8} (h : Bs w S v l) : ∃ A c, v = .slice A l.length c := by
  obtain ⟨_, A, c, rfl, _⟩ := h
  exact ⟨A, c, rfl⟩
theorem leaf_calls (w : World) (S : Nat → Prop) (v : Value) (l : List UInt8) (hb : Bs w S v l) (hl : l.length ≤ 1000000) :
    Calls Try.prog 42 #[v] w fun e w' => e = .returned (dg (SHA (0 :: l))) ∧ Below w.heap.size w w' := by
  obtain ⟨A, c, rfl⟩ := hb.shape
  go_enter Try.func42, Try.ntmps42
  go_wp2_with (refine wpList_plain rfl fun _ hK => wp_alloc 32 rfl (da zeroDig) zero_dg (hK _ _ ?_))
  have hs : Same (fun _ => True) w (((w.alloc (.cells (da zeroDig) 32)).alloc (.cells #[.int .u8 0] 5)).alloc (.cells #[.slice (some ⟨w.heap.size + 1, 0, none⟩) 1 1, .slice A l.length c] 25)) := (((Same.refl _ _).alloc _).alloc _).alloc _
  refine (shasum_calls _ (fun _ => True) _ [[0], l] (Ts.lit (n := 2) (hp_new (by simp)) trivial rfl rfl (by decide) ?_) (by simp; omega)).mono ?_
  · intro i hi u hu
    match i, hi with
    | 0, _ =>
      obtain rfl : .slice (some ⟨w.heap.size + 1, 0, none⟩) 1 1 = u := by simpa using hu
      exact (OwnB.lit (base := 0) (n := 1) (l := [0]) (hp_old (hp_new (by simp))) (by rfl) rfl (Nat.zero_le _) (by decide)).any'
    | 1, _ =>
      obtain rfl : .slice A l.length c = u := by simpa using hu
      exact Rd.any (Bs.again hb hs)
  · rintro e w1 ⟨he, hb1⟩
    obtain ⟨D, hD⟩ : ∃ D, D = SHA (0 :: l) := ⟨_, rfl⟩
    have he : e = .returned (dg D) := by rw [hD]; simpa using he
    subst he
    have HD := Lib.hid hD
    clear hD
    have ht := (Same.all_of_below hb1).heap (hp_old (hp_old (hp_new (w := w) (o := .cells (da zeroDig) 32) rfl))) trivial
    have hsz : (Try.prog.info? 32).map (·.size) = some (da D).size := by rw [da_size]; kernel_rfl
    go_wp2_with (refine wpList_plain rfl fun _ hK => wp_store_row 32 (.tmp 2) (.tmp 6) rfl w.heap.size rfl (da D) rfl _ _ ht (by rw [da_size, da_size]) hsz (by rw [da_list]; exact bv_one _) fun w4 hh4 hs4 => hK _ _ ?_)
    refine ret_cell rfl rfl hh4 Try.underlying32 rfl hsz rfl ⟨by rw [HD.out], ?_⟩
    have hw1 : Below w.heap.size w w1 := (hs.below_of (Nat.le_refl _) fun _ _ => trivial).trans (hb1.mono (by simp; omega))
    exact hw1.trans (hs4.below_of hw1.size fun q _ h => by omega)
/-! ### The small trails of 'knows' -/
theorem down_one (w : World) (i : Int) : Calls Try.prog 60 #[.int .i64 1, .int .i64 i] w fun e w' => e = .returned (.slice none 0 0) ∧ w' = w := by
  go_enter Try.func60, Try.ntmps60
  go_wp2_with fail
  go_loopw [0, 1, 5] (fun n _ o wr => n = .int .i64 1 ∧ o = .slice none 0 0 ∧ wr = w) (fun _ _ _ _ => 0)
  case atStart => exact ⟨rfl, rfl, rfl⟩
  case round =>
    obtain ⟨rfl, rfl, rfl⟩ := hrel
    go_wp2_with fail
    go_ret
    exact ⟨rfl, rfl⟩
theorem info_step : (Try.prog.info? 117).map (fun i => (i.zero, i.size, i.bytes)) = some (some (.agg #[.bool false]), 1, 1) := by kernel_rfl
theorem make_steps (u : World) (n : Nat) (hn : n ≤ 1000000) : (Instr.makeSlice 87 (.int .i64 0) (.int .i64 (n : Int))).run Try.prog u =
    .ok (.slice (some ⟨u.heap.size, 0, none⟩) 0 n) (u.alloc (.cells (madeCells #[.bool false] n) 117)) := by
  obtain ⟨i0, hi, hz0, hz1, hz2⟩ := info_parts info_step
  have h := run_make (P := Try.prog) u 87 117 i0 (.agg #[.bool false]) Try.underlying87 hi hz0 .i64 .i64 0 (n : Int) (by omega) (by omega) (by rw [hz2]; omega) (by omega)
  simpa [hz1, Value.cells] using h
theorem make_texts (u : World) (n : Nat) (hn : n ≤ 1000000) : (Instr.makeSlice 22 (.int .i64 0) (.int .i64 (n : Int))).run Try.prog u =
    .ok (.slice (some ⟨u.heap.size, 0, none⟩) 0 n) (u.alloc (.cells (madeCells #[.slice none 0 0] n) 25)) := by
  obtain ⟨i0, hi, hz0, hz1, hz2⟩ := info_parts info_bs
  have h := run_make (P := Try.prog) u 22 25 i0 (.slice none 0 0) Try.underlying22 hi hz0 .i64 .i64 0 (n : Int) (by omega) (by omega) (by rw [hz2]; omega) (by omega)
  simpa [hz1, Value.cells] using h
theorem made_zero (z : Array Value) : madeCells z 0 = #[] := by simp [madeCells]
theorem turnedS_nil (w : World) : Calls Try.prog 81 #[.slice none 0 0] w fun e w' => (∃ g, e = .returned (.slice (some ⟨g, 0, none⟩) 0 0)) ∧ Below w.heap.size w w' := by
  have hmk : ∀ u : World, (Instr.makeSlice 87 (.int .i64 0) (.int .i64 0)).run Try.prog u = .ok (.slice (some ⟨u.heap.size, 0, none⟩) 0 0) (u.alloc (.cells #[] 117)) := fun u => by have h := make_steps u 0 (by decide); rwa [made_zero] at h
  go_enter Try.func81, Try.ntmps81
  go_wp2_with fail
  go_loopw [3, 4] (fun o i wr => o = .slice (some ⟨w.heap.size, 0, none⟩) 0 0 ∧ i = .int .i64 (-1) ∧ wr = w.alloc (.cells #[] 117)) (fun _ _ _ => 0)
  case atStart => exact ⟨rfl, rfl, rfl⟩
  case round =>
    obtain ⟨rfl, rfl, rfl⟩ := hrel
    go_wp2_with fail
    go_ret
    exact ⟨⟨_, rfl⟩, (Below.refl _ _).alloc (Nat.le_refl _) _⟩
theorem turnedB_nil (w : World) : Calls Try.prog 55 #[.slice none 0 0] w fun e w' => e = .returned (.slice (some ⟨w.heap.size, 0, none⟩) 0 0) ∧ w'.heap[w.heap.size]? = some (.cells #[] 25) ∧ Below w.heap.size w w' := by
  have hmk : ∀ u : World, (Instr.makeSlice 22 (.int .i64 0) (.int .i64 0)).run Try.prog u = .ok (.slice (some ⟨u.heap.size, 0, none⟩) 0 0) (u.alloc (.cells #[] 25)) := fun u => by have h := make_texts u 0 (by decide); rwa [made_zero] at h
  go_enter Try.func55, Try.ntmps55
  go_wp2_with fail
  go_loopw [3, 4] (fun o i wr => o = .slice (some ⟨w.heap.size, 0, none⟩) 0 0 ∧ i = .int .i64 (-1) ∧ wr = w.alloc (.cells #[] 25)) (fun _ _ _ => 0)
  case atStart => exact ⟨rfl, rfl, rfl⟩
  case round =>
    obtain ⟨rfl, rfl, rfl⟩ := hrel
    go_wp2_with fail
    go_ret
    exact ⟨rfl, hp_new rfl, (Below.refl _ _).alloc (Nat.le_refl _) _⟩
theorem up_nil (w : World) (d : Dig) : Calls Try.prog 61 #[dg d, .slice none 0 0, .slice none 0 0] w fun e w' => e = .returned (.slice none 0 0) ∧ Below w.heap.size w w' := by
  go_enter Try.func61, Try.ntmps61
  go_wp2_with fail
  refine (turnedS_nil _).mono ?_
  rintro e w1 ⟨⟨g, rfl⟩, hb1⟩
  have hw1 : Below w.heap.size w w1 := ((Below.refl _ w).alloc (Nat.le_refl _) _).trans (hb1.mono (by simp))
  go_wp2_with fail
  go_loopw [7, 14] (fun o i wr => o = .slice none 0 0 ∧ i = .int .i64 0 ∧ wr = w1) (fun _ _ _ => 0)
  case atStart => exact ⟨rfl, rfl, rfl⟩
  case round =>
    obtain ⟨rfl, rfl, rfl⟩ := hrel
    go_wp2_with fail
    go_ret
    exact ⟨rfl, hw1⟩
/-- A row of texts of the call's own. -/
def OwnV (w : World) (base : Nat) (v : Value) (vs : List Value) : Prop := w.ownsRow base 25 1 v vs.length vs
theorem OwnV.lit {w : World} {base g n : Nat} {vs : List Value} {cs : Array Value} (hb : w.heap[g]? = some (.cells cs 25)) (hc : cs.toList = vs) (hn : vs.length = n) (hg : base ≤ g) (hm : n ≤ maxLen) :
    OwnV w base (.slice (some ⟨g, 0, none⟩) n n) vs := by
  subst hn
  have hs : cs.size = vs.length := by rw [← Array.length_toList, hc]
  exact ⟨by simp, .inr ⟨g, vs.length, cs, rfl, hg, hb, Nat.le_refl _, hm, by simpa using hs, by rw [hc, Nat.mul_one, List.take_length]⟩⟩
theorem OwnV.room {w : World} {base g n : Nat} {cs : Array Value} (hb : w.heap[g]? = some (.cells cs 25)) (hs : cs.size = n) (hg : base ≤ g) (hm : n ≤ maxLen) :
    OwnV w base (.slice (some ⟨g, 0, none⟩) 0 n) [] :=
  ⟨by simp, .inr ⟨g, n, cs, rfl, hg, hb, Nat.zero_le _, hm, by simpa using hs, by simp⟩⟩
theorem OwnV.rd {w : World} {base : Nat} {v : Value} {vs : List Value} (h : OwnV w base v vs) : Rd w (fun k => v.ownBlock = some k) 1 v vs.length vs := Rd.of_own h
section
variable {w : World} {ops : Array Oper} {o : Oper} {a : Act} {Q : Exit → Act → World → Prop}
theorem list_append_v {rest : List Oper} (hgd : o.guard = none) (s x : Operand) (ho : o.op = .call { callee := .builtin .append, args := #[s, x], argTypes := #[22, 22] })
    (base : Nat) (l m : List Value) (S : Nat → Prop) (hown : OwnV w base (a.eval s) l) (hr : Rd w S 1 (a.eval x) m.length m) (h1 : ∀ u ∈ m, u.oneCell' = true)
    (hlen : l.length + m.length ≤ 5864062014805) (hbase : base ≤ w.heap.size)
    (h : ∀ v' w', OwnV w' base v' (l ++ m) → w.grownBy w' (a.eval s).ownBlock → (v'.ownBlock = (a.eval s).ownBlock ∨ v'.ownBlock = some w.heap.size) → wpList Try.prog ops Q rest (a.put o.dst v') w') :
    wpList Try.prog ops Q (o :: rest) a w :=
  wpList_plain hgd fun _ hK => wp_append_rd s x 22 ho base 25 1 24 (.slice none 0 0) Try.underlying22 info_bs rfl (by decide) l.length l hown S m.length m hr h1
    (by simp only [maxLen]; omega) (by omega) hbase fun v' w' h1 h2 h3 => hK _ _ (h v' w' (by unfold OwnV; rw [List.length_append]; exact h1) h2 h3)
end
theorem texttrail_one (w : World) (S : Nat → Prop) (v : Value) (l : List UInt8) (hb : Bs w S v l) (hl : l.length ≤ 1000000) :
    Calls Try.prog 30 #[.int .i64 1, .int .i64 0, v, .slice none 0 0] w fun e w' => ∃ u, e = .returned u ∧ Ts w' (fun k => w.heap.size ≤ k) u [0 :: l] ∧ Below w.heap.size w w' := by
  obtain ⟨A, c, rfl⟩ := hb.shape
  go_enter Try.func30, Try.ntmps30
  go_wp2_with fail
  refine (down_one _ _).mono ?_
  rintro e w1 ⟨rfl, rfl⟩
  go_wp2_with (refine list_append_b rfl (.tmp 34) (.tmp 35) rfl w1.heap.size [0] l (fun _ => True) (OwnB.lit hp_new (by rfl) rfl (Nat.le_refl _) (by decide)) (Rd.any (Bs.again hb ((Same.refl _ _).alloc _))) (by simp; omega) (by simp) fun v2 w2 ho2 hg2 hat2 => ?_; have hs2 : Same (fun _ => True) w1 w2 := Same.grown ((Same.refl _ _).alloc _) hg2 (fun q hq _ h => by (have h := Option.some.inj (show some (q) = some (w1.heap.size) from h); omega)); obtain ⟨A2, c2, hv2⟩ := ho2.shape; subst hv2)
  refine (leaf_calls w2 (fun _ => True) (.slice A l.length c) l (Rd.any (Bs.again hb hs2)) hl).mono ?_
  rintro e w3 ⟨rfl, hb3⟩
  have hs3 := hs2.trans (Same.all_of_below hb3)
  have ho3 := ho2.same (Same.all_of_below hb3) fun _ _ => trivial
  generalize SHA (0 :: l) = D
  go_wp2_with fail
  refine (up_nil w3 D).mono ?_
  rintro e w4 ⟨rfl, hb4⟩
  have hs4 := hs3.trans (Same.all_of_below hb4)
  have ho4 := ho3.same (Same.all_of_below hb4) fun _ _ => trivial
  go_wp2_with fail
  refine (turnedB_nil w4).mono ?_
  rintro e w5 ⟨rfl, hh5, hb5⟩
  have hs5 := hs4.trans (Same.all_of_below hb5)
  have ho5 := ho4.same (Same.all_of_below hb5) fun _ _ => trivial
  have hz4 := hs4.size
  have hz5 := hb5.size
  go_wp2_with (refine list_append_v rfl (.tmp 42) (.tmp 44) rfl w1.heap.size [] [.slice A2 ([0] ++ l).length c2] (fun _ => True) (OwnV.room (hp_old hh5) rfl hz4 (by decide)) (OwnV.lit (n := 1) (hp_new rfl) (by rfl) rfl (Nat.le_trans hz4 hz5) (by decide)).rd.any (by simp [Value.oneCell']) (by simp) (by simp; omega) fun v6 w6 ho6 hg6 hat6 => ?_)
  go_ret
  rw [List.nil_append] at ho6
  have hs6 : Same (fun _ => True) w1 w6 := (hs5.alloc _).grown hg6 (fun q hq _ h => by (have h := Option.some.inj (show some (q) = some (w4.heap.size) from h); omega))
  have hk6 : Same (fun q => q < w4.heap.size) w5 w6 := ((Same.refl _ _).alloc _).grown hg6 (fun q hq hk h => by (have h := Option.some.inj (show some (q) = some (w4.heap.size) from h); omega))
  have hb6 : Bs w6 (fun k => w1.heap.size ≤ k) (.slice A2 ([0] ++ l).length c2) ([0] ++ l) := (Rd.same ho5.bs hk6 fun q _ h => (ho4.lt q h).2).mono fun q _ h => (ho5.lt q h).1
  refine ⟨v6, rfl, ⟨[.slice A2 ([0] ++ l).length c2], rfl, ho6.rd.mono fun q _ h => (ho6.lt q h).1, ?_⟩, hs6.below_of (Nat.le_refl _) fun _ _ => trivial⟩
  intro i hi u hu
  have hi0 : i = 0 := by simp at hi; omega
  subst hi0
  obtain rfl : .slice A2 ([0] ++ l).length c2 = u := by simpa using hu
  exact hb6
theorem growtrail_none (w : World) (d : Dig) (n : Int) : Calls Try.prog 31 #[dg d, .int .i64 0, .int .i64 n, .slice none 0 0] w fun e w' => e = .returned (.slice none 0 0) ∧ Below w.heap.size w w' := by
  go_enter Try.func31, Try.ntmps31
  go_wp2_with fail
  go_ret
  exact ⟨rfl, (Below.refl _ _).alloc (Nat.le_refl _) _⟩
def KnowsPost (w : World) (e : Ending) (w' : World) : Prop := e = .returned (.bool true) ∧ Below w.heap.size w w'
theorem knows_calls (w : World) : Calls Try.prog 11 #[] w fun e w' => KnowsPost w e w' := by
  have hcv := Lib.run_convert_bytes_const (P := Try.prog) w 25 5 #[.int .u8 97] 1 1 Try.underlying25 Try.underlying5
  go_enter Try.func11, Try.ntmps11
  go_wp2_with fail
  refine (texttrail_one _ (fun _ => True) _ [97] ?_ (by decide)).mono ?_
  · exact Rd.of_block (n := 1) (size := 1) (S := fun _ => True) (cs := #[.int .u8 97]) (hp_new rfl) trivial rfl (by decide)
  rintro e w1 ⟨u, rfl, hts, hb1⟩
  have hw1 : Below w.heap.size w w1 := ((Below.refl _ w).alloc (Nat.le_refl _) _).trans (hb1.mono (by simp))
  obtain ⟨A, c, rfl⟩ := hts.shape
  go_wp2_with fail
  refine (part_calls w1 _ _ _ [[0, 97]] [[0, 97]] hts hts (by simp) (by simp)).mono ?_
  rintro e w2 (⟨i, A1, A2, c1, c2, rfl, hd, _, _, hb2⟩ | ⟨rfl, hnd, hb2⟩)
  · exact absurd rfl hd.2.2.1
  go_wp2_with fail
  have hl : ∀ (b : UInt8) (W : World) (g : Nat), W.heap[g]? = some (.cells #[.int .u8 b.toNat] 5) → Bs W (fun _ => True) (.slice (some ⟨g, 0, none⟩) 1 1) [b] := fun b W g h => Rd.of_block (n := 1) (size := 1) (S := fun _ => True) (cs := #[.int .u8 b.toNat]) h trivial rfl (by decide)
  have ht2 : ∀ (b b' : UInt8) (W : World) (g g1 g2 : Nat), W.heap[g]? = some (.cells #[.slice (some ⟨g1, 0, none⟩) 1 1, .slice (some ⟨g2, 0, none⟩) 1 1] 25) → W.heap[g1]? = some (.cells #[.int .u8 b.toNat] 5) → W.heap[g2]? = some (.cells #[.int .u8 b'.toNat] 5) →
      Ts W (fun _ => True) (.slice (some ⟨g, 0, none⟩) 2 2) [[b], [b']] := fun b b' W g g1 g2 h h1 h2 => Ts.lit (n := 2) h trivial rfl rfl (by decide) (fun i hi u hu => by
    match i, hi with
    | 0, _ => obtain rfl : .slice (some ⟨g1, 0, none⟩) 1 1 = u := by simpa using hu
              exact hl b W g1 h1
    | 1, _ => obtain rfl : .slice (some ⟨g2, 0, none⟩) 1 1 = u := by simpa using hu
              exact hl b' W g2 h2)
  have hs3 : Same (fun _ => True) w2 ((((((w2.alloc (.cells #[.int .u8 1] 5)).alloc (.cells #[.int .u8 2] 5)).alloc (.cells #[.slice (some ⟨w2.heap.size, 0, none⟩) 1 1, .slice (some ⟨w2.heap.size + 1, 0, none⟩) 1 1] 25)).alloc (.cells #[.int .u8 1] 5)).alloc (.cells #[.int .u8 3] 5)).alloc (.cells #[.slice (some ⟨w2.heap.size + 1 + 1 + 1, 0, none⟩) 1 1, .slice (some ⟨w2.heap.size + 1 + 1 + 1 + 1, 0, none⟩) 1 1] 25)) :=
    ((((((Same.refl _ _).alloc _).alloc _).alloc _).alloc _).alloc _).alloc _
  refine (part_calls _ (fun _ => True) _ _ [[1], [2]] [[1], [3]]
    (ht2 1 2 _ _ _ _ (hp_old (hp_old (hp_old (hp_new (by simp))))) (hp_old (hp_old (hp_old (hp_old (hp_old (hp_new (by simp))))))) (hp_old (hp_old (hp_old (hp_old (hp_new (by simp)))))))
    (ht2 1 3 _ _ _ _ (hp_new (by simp)) (hp_old (hp_old (hp_new (by simp)))) (hp_old (hp_new (by simp)))) (by simp) (by simp)).mono ?_
  have hd1 : IsDiff [[1], [2]] [[1], [3]] 1 := ⟨by decide, by decide, by decide, fun j hj => by
    have h0 : j = 0 := by omega
    subst h0
    rfl⟩
  rintro e w4 (⟨i, A1, A2, c1, c2, rfl, hd, hba, hbb, hb4⟩ | ⟨rfl, hnd2, hb4⟩)
  rotate_left
  · exact (hd1.not hnd2).elim
  obtain rfl := hd.unique hd1
  clear hd hd1 hnd
  have hs4 := hs3.trans (Same.all_of_below hb4)
  have hw4 : Below w.heap.size w w4 := (hw1.trans (hb2.mono hw1.size)).trans (hs4.below_of (by have := hb2.size; have := hw1.size; omega) fun _ _ => trivial)
  obtain ⟨_, _, _, hget⟩ := hts.get
  obtain ⟨g, o, u, rfl, _, _, hu, hbu⟩ := hget 0 (by decide)
  have hs14 := (Same.all_of_below hb2).trans hs4
  rw [Nat.add_zero] at hu
  have hu4 := hs14.cell hu trivial
  have hcu := (Bs.again hbu hs14).conv
  have hca := hba.conv
  have hcb := hbb.conv
  have q1 : ((str [0, 97]).toList == [0, 97]) = true := by rw [str, ByteArray.toList_mk]; decide
  have q2 : ((str [2]).toList == [2]) = true := by rw [str, ByteArray.toList_mk]; decide
  have q3 : ((str [3]).toList == [3]) = true := by rw [str, ByteArray.toList_mk]; decide
  have hca : (convert 25 9 (.slice A1 1 c1)).run Try.prog w4 = .ok (.string (str [2])) w4 := hca
  have hcb : (convert 25 9 (.slice A2 1 c2)).run Try.prog w4 = .ok (.string (str [3])) w4 := hcb
  have hcu : (convert 25 9 u).run Try.prog w4 = .ok (.string (str [0, 97])) w4 := hcu
  simp only [List.getD_cons_zero, List.getD_cons_succ, List.length_cons, List.length_nil]
  clear hget hts hba hbb hcv hl ht2 hs3 hb1 hb2 hb4
  go_wp2_with fail
  refine (growtrail_none w4 zeroDig 1).mono ?_
  rintro e w5 ⟨rfl, hb5⟩
  go_wp2_with fail
  go_ret
  exact ⟨rfl, hw4.trans (hb5.mono hw4.size)⟩
end Go.Proofs.Ytgjkobokffiajaa
