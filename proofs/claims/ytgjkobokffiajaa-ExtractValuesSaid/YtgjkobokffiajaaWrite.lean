/- Writing bytes into a hash: it takes the plain steps. -/
import Derived.Test.YtgjkobokffiajaaTake
namespace Go.Proofs.Ytgjkobokffiajaa
open Go.RowKit
set_option maxRecDepth 100000
set_option maxHeartbeats 1000000
theorem hc_rest (s : St) (v : Value) (n : Nat) : (hc s.l v n)[8]? = some v := rfl
theorem hc_n (s : St) (v : Value) (n : Nat) : (hc s.l v n)[9]? = some (.int .i64 (n : Int)) := rfl
theorem hc_set_rest (s : St) (v u : Value) (n : Nat) : splice (hc s.l v n) 8 [u] = hc s.l u n := rfl
theorem hc_set_n (s : St) (v : Value) (n m : Nat) : splice (hc s.l v n) 9 [.int .i64 (m : Int)] = hc s.l v m := rfl
theorem Bs.take {w : World} {S : Nat → Prop} {g o n c c' k : Nat} {l : List UInt8} (h : Bs w S (.slice (some ⟨g, o, none⟩) n c) l) (hk : k ≤ l.length) (hc : k ≤ c') (hm : c' ≤ maxLen) : Bs w S (.slice (some ⟨g, o, none⟩) k c') (l.take k) := by
  obtain ⟨h1, A, c1, hv, hn, _, hp⟩ := h
  simp only [Value.slice.injEq] at hv
  obtain ⟨rfl, rfl, rfl⟩ := hv
  unfold Bs
  rw [List.length_take, Nat.min_eq_left hk]
  refine ⟨by simp [bv_length, List.length_take, Nat.min_eq_left hk], _, c', rfl, hc, hm, fun h0 => ?_⟩
  obtain ⟨g', o', hA, hs, hg, hcell⟩ := hp (by omega)
  simp only [Option.some.injEq, Addr.mk.injEq, and_true] at hA
  obtain ⟨rfl, rfl⟩ := hA
  refine ⟨g, o, rfl, hs, hg, fun j u hu => hcell j u ?_⟩
  rw [bv_get] at hu ⊢
  rw [List.getElem?_take] at hu
  split at hu
  · exact hu
  · simp at hu
theorem Bs.drop {w : World} {S : Nat → Prop} {g o n c k : Nat} {l : List UInt8} (h : Bs w S (.slice (some ⟨g, o, none⟩) n c) l) (hk : k ≤ l.length) (a : Option Addr) (ha : k < c → a = some ⟨g, o + k, none⟩) : Bs w S (.slice a (n - k) (c - k)) (l.drop k) := by
  obtain ⟨h1, A, c1, hv, hn, hm, hp⟩ := h
  simp only [Value.slice.injEq] at hv
  obtain ⟨rfl, hnl, rfl⟩ := hv
  subst hnl
  unfold Bs
  rw [List.length_drop]
  refine ⟨by simp [bv_length, List.length_drop], _, _, rfl, by omega, by omega, fun h0 => ?_⟩
  obtain ⟨g', o', hA, hs, hg, hcell⟩ := hp (by omega)
  simp only [Option.some.injEq, Addr.mk.injEq, and_true] at hA
  obtain ⟨rfl, rfl⟩ := hA
  refine ⟨g, o + k, ha (by omega), hs, hg, fun j u hu => ?_⟩
  rw [Nat.add_assoc]
  refine hcell (k + j) u ?_
  rw [bv_get] at hu ⊢
  rw [List.getElem?_drop] at hu
  exact hu
theorem OwnB.same {w w' : World} {T : Nat → Prop} {B : Nat} {v : Value} {l : List UInt8} (h : OwnB w B v l) (hs : Same T w w') (hT : ∀ k, v.ownBlock = some k → T k) : OwnB w' B v l := by
  refine ⟨h.1, ?_⟩
  rcases h.2 with h2 | ⟨g, cap, cur, rfl, hb, hg, r⟩
  · exact .inl h2
  · exact .inr ⟨g, cap, cur, rfl, hb, hs.heap hg (hT g rfl), r⟩
theorem OwnB.slice {w : World} {B : Nat} {v : Value} {l : List UInt8} (h : OwnB w B v l) : (v = .slice none 0 0 ∧ l = []) ∨ ∃ g c, v = .slice (some ⟨g, 0, none⟩) l.length c ∧ B ≤ g ∧ l.length ≤ c ∧ c ≤ maxLen := by
  rcases h.2 with ⟨h2, h3⟩ | ⟨g, cap, cur, rfl, hb, hg, hn, hc, _⟩
  · exact .inl ⟨h2, List.eq_nil_of_length_eq_zero h3⟩
  · exact .inr ⟨g, cap, rfl, hb, hn, hc⟩
theorem OwnB.shape {w : World} {B : Nat} {v : Value} {l : List UInt8} (h : OwnB w B v l) : ∃ A c, v = .slice A l.length c := by
  rcases h.slice with ⟨rfl, rfl⟩ | ⟨g, c, rfl, _⟩
  · exact ⟨none, 0, rfl⟩
  · exact ⟨_, c, rfl⟩
theorem info_int : (Try.prog.info? 3).map (·.size) = some 1 := by kernel_rfl
theorem info_bs1 : (Try.prog.info? 25).map (·.size) = some 1 := by kernel_rfl
def restLen (gh : Nat) (w : World) : Nat := match w.cell? ⟨gh, 8, none⟩ with | some (.slice _ n _) => n | _ => 0
theorem write_calls (w : World) (S : Nat → Prop) (B gh : Nat) (s : St) (v : Value) (n : Nat) (R : List UInt8) (vb : Value) (b : List UInt8)
    (hB : B ≤ gh) (hBw : B ≤ w.heap.size) (hh : w.heap[gh]? = some (.cells (hc s.l v n) 123)) (ho : OwnB w B v R) (hne : v.ownBlock ≠ some gh) (hb : Bs w S vb b) (hSg : ∀ k, S k → k ≠ gh) (hn : n + b.length ≤ 1099511627776) (hR : R.length + b.length ≤ 1099511627776) :
    Calls Try.prog 75 #[.pointer (some ⟨gh, 0, none⟩), vb] w fun e w' => ∃ v', e = .returned (.tuple #[]) ∧ w'.heap[gh]? = some (.cells (hc (eatAll s (R ++ b)).1.l v' (n + b.length)) 123) ∧
      OwnB w' B v' (eatAll s (R ++ b)).2 ∧ v'.ownBlock ≠ some gh ∧ Below B w w' := by
  have hgl := lt_of_block hh
  obtain ⟨hb1, Ab, cb, rfl, hbn, hbm, hbp⟩ := hb
  have hbb : Bs w S (.slice Ab b.length cb) b := ⟨hb1, Ab, cb, rfl, hbn, hbm, hbp⟩
  clear hbp
  have c8 : w.cell? ⟨gh, 8, none⟩ = some v := (cell_at _ _ _ _ _ _ hh).trans (hc_rest _ _ _)
  have c9 : w.cell? ⟨gh, 9, none⟩ = some (.int .i64 (n : Int)) := (cell_at _ _ _ _ _ _ hh).trans (hc_n _ _ _)
  go_enter Try.func75, Try.ntmps75
  have hne' : some gh ≠ v.ownBlock := fun h => hne h.symm
  go_wp2_with (first
    | (refine wpList_plain rfl fun _ hK => wp_store_one 3 (.tmp 14) (.tmp 12) rfl gh 9 rfl (.int .i64 ((n + b.length : Nat) : Int)) rfl rfl _ _ hh info_int (by rw [hc_size, St.l_length]; omega) fun w1 hh1 hs1 => hK _ _ ?_; rw [hc_set_n] at hh1; have c81 := (cell_at _ _ 8 _ _ _ hh1).trans (hc_rest _ _ _))
    | (refine list_append_b rfl (.tmp 19) (.tmp 20) rfl B R b (fun _ => True) (ho.same hs1 fun k hk h => hne (by rw [hk, h])) (Rd.any (hbb.same hs1 fun k _ hk => hSg k hk)) (by omega) (Nat.le_trans hBw hs1.size) fun v2 w2 ho2 hg2 hat2 => ?_; obtain ⟨A2, c2, hv2⟩ := ho2.shape; rw [List.length_append] at hv2; subst hv2)
    | (refine wpList_plain rfl fun _ hK => wp_store_one 25 (.tmp 23) (.tmp 21) rfl gh 8 rfl (.slice A2 (R.length + b.length) c2) rfl rfl _ _ ((Same.of_grown hg2).heap hh1 hne') info_bs1 (by rw [hc_size, St.l_length]; omega) fun w3 hh3 hs3 => hK _ _ ?_))
  rw [hc_set_rest] at hh3
  have hne2 : (Value.slice A2 (R.length + b.length) c2).ownBlock ≠ some gh := by
    rcases hat2 with h | h
    · intro h2; rw [h] at h2; exact hne h2
    · intro h2; rw [h] at h2; injection h2 with h2; have := hs1.size; omega
  have ho3 := ho2.same hs3 fun k hk h => hne2 (by rw [hk, h])
  have hbel : Below B w w3 := ((hs1.below_of hBw fun k _ h => by omega).grown hg2 (Nat.le_trans hBw hs1.size) (fun k hk => (ho.lt k hk).1)).trans (hs3.below_of (Nat.le_trans hBw (Nat.le_trans hs1.size hg2.size)) fun k _ h => by omega)
  have hLl : (R ++ b).length = R.length + b.length := List.length_append
  have hbd : R.length + b.length ≤ 1099511627776 := by omega
  generalize R.length + b.length = m at *
  generalize hN : n + b.length = N at *
  have HN := Lib.hid hN
  clear hN
  clear hh hh1 hs1 c8 c9 hbb hb1 hbn hbm hg2 hat2 ho ho2 hs3 hne hne' c81 hn
  generalize hL : R ++ b = L at *
  have HL := Lib.hid hL
  clear hL
  simp only [Act.put]
  go_loopw [] (fun wr => ∃ (s' : St) (A : Option Addr) (c : Nat) (L' : List UInt8), wr.heap[gh]? = some (.cells (hc s'.l (.slice A L'.length c) N) 123) ∧ OwnB wr B (.slice A L'.length c) L' ∧ (Value.slice A L'.length c).ownBlock ≠ some gh ∧ Below B w wr ∧ eatAll s' L' = eatAll s L ∧ L'.length ≤ 1099511627776) (fun wr => restLen gh wr)
  case atStart => subst hLl; exact ⟨s, A2, c2, L, hh3, ho3, hne2, hbel, rfl, hbd⟩
  case round =>
    obtain ⟨s', A, c, L', hr, hro, hrn, hrb, hre, hrl⟩ := hrel
    have c8 : wr.cell? ⟨gh, 8, none⟩ = some (.slice A L'.length c) := (cell_at _ _ _ _ _ _ hr).trans (hc_rest _ _ _)
    have hgr := lt_of_block hr
    by_cases h64 : 64 ≤ L'.length
    · rcases hro.slice with ⟨_, h0⟩ | ⟨g, c', hv, hgB, hlc, hcm⟩
      · rw [h0] at h64; simp at h64
      simp only [Value.slice.injEq, true_and] at hv
      obtain ⟨rfl, rfl⟩ := hv
      have hgg : g ≠ gh := fun h => hrn (by rw [h]; rfl)
      have htt : decide (64 ≤ (L'.length : Int)) = true := by simp; omega
      have h64i : (64 : Int) ≤ (L'.length : Int) := by omega
      have hci : (64 : Int) ≤ (c : Int) := by omega
      go_wp2_with fail
      refine (take_calls wr (fun k => (Value.slice (some ⟨g, 0, none⟩) L'.length c).ownBlock = some k) _ (L'.take 64) (by have h := hro.bs.take (k := 64) (c' := c) h64 (by omega) hcm; exact h) (by rw [List.length_take]; omega) gh s' _ N hr).mono ?_
      rintro e w4 ⟨rfl, hh4, hs4⟩
      have c84 : ∀ o, (w4.alloc o).cell? ⟨gh, 8, none⟩ = some (.slice (some ⟨g, 0, none⟩) L'.length c) := fun o => (cell_at _ _ _ _ _ _ (hp_old hh4)).trans (hc_rest _ _ _)
      have ho4 := hro.same hs4 fun k hk h => hrn (by rw [hk, h])
      have hB4 : Below B wr w4 := hs4.below_of (Nat.le_trans hBw hrb.size) fun k _ h => by omega
      have hz4 := hs4.size
      have hdr0 : ∀ a, (64 < c → a = some ⟨g, 0 + 64, none⟩) → Bs (w4.alloc (.cells #[] 5)) (fun _ => True) (.slice a (L'.length - 64) (c - 64)) (L'.drop 64) := fun a ha =>
        Rd.any (Bs.drop (w := w4.alloc (.cells #[] 5)) (ho4.bs.same ((Same.refl (fun _ => True) _).alloc _) fun _ _ _ => trivial) h64 a ha)
      rcases Nat.eq_or_lt_of_le (Nat.le_trans h64 hlc) with hc | hc
      · subst hc
        have hdr := hdr0 (some ⟨g, 0, none⟩) (fun h => absurd h (by decide))
        clear hdr0
        have hl64 : L'.length = 64 := by omega
        have hd0 : L'.drop 64 = [] := List.eq_nil_of_length_eq_zero (by rw [List.length_drop]; omega)
        have h4B : B ≤ w4.heap.size := Nat.le_trans (Nat.le_trans hBw hrb.size) hz4
        have ho5 : OwnB (w4.alloc (.cells #[] 5)) B (.slice (some ⟨w4.heap.size, 0, none⟩) 0 0) [] := OwnB.lit hp_new rfl rfl h4B (by decide)
        go_wp2_with (first
          | (refine wpList_plain rfl fun _ hK => wp_store_one 25 (.tmp 46) (.tmp 44) rfl gh 8 rfl (.slice (some ⟨w4.heap.size, 0, none⟩) 0 0) rfl rfl _ _ (hp_old hh4) info_bs1 (by rw [hc_size, St.l_length]; omega) fun w6 hh6 hs6 => hK _ _ ?_))
        simp only [Act.put]
        have h6c : w6.cell? ⟨gh, 8, none⟩ = some (.slice (some ⟨w4.heap.size, 0, none⟩) 0 0) := (cell_at _ _ _ _ _ _ hh6).trans (by rw [hc_set_rest]; exact hc_rest _ _ _)
        rw [hc_set_rest] at hh6
        have hne6 : (Value.slice (some ⟨w4.heap.size, 0, none⟩) 0 0).ownBlock ≠ some gh := fun h => Nat.ne_of_gt (lt_of_block hh4) (Option.some.inj h)
        go_roundw
        case rel => exact ⟨compress s' (L'.take 64), some ⟨w4.heap.size, 0, none⟩, 0, [], hh6, ho5.same hs6 (fun k hk h => hne6 (by rw [hk, h])), hne6, ((hrb.trans hB4).alloc h4B _).trans (hs6.below_of (by rw [World.size_alloc]; omega) fun k _ h => by omega), by rw [← hre, eatAll_step s' L' h64, hd0], Nat.zero_le _⟩
        case measure => unfold restLen; rw [h6c, c8]; show 0 < L'.length; omega
      · have hdr := hdr0 (some ⟨g, 64, none⟩) (fun _ => rfl)
        clear hdr0
        go_wp2_with (first
          | (refine list_append_b rfl (.tmp 38) (.tmp 43) rfl B [] (L'.drop 64) (fun _ => True) (OwnB.lit hp_new rfl rfl (Nat.le_trans (Nat.le_trans hBw hrb.size) hz4) (by decide)) hdr (by simp; omega) (by simp; have := hrb.size; omega) fun v5 w5 ho5 hg5 hat5 => ?_; obtain ⟨A5, c5, hv5⟩ := ho5.shape; rw [List.nil_append, List.length_drop] at hv5; subst hv5; have hh5 := (Same.of_grown hg5).heap (hp_old (o := .cells #[] 5) hh4) (fun h => Nat.ne_of_lt (lt_of_block hh4) (Option.some.inj h)))
          | (refine wpList_plain rfl fun _ hK => wp_store_one 25 (.tmp 46) (.tmp 44) rfl gh 8 rfl (.slice A5 (L'.length - 64) c5) rfl rfl _ _ hh5 info_bs1 (by rw [hc_size, St.l_length]; omega) fun w6 hh6 hs6 => hK _ _ ?_))
        simp only [Act.put]
        have h6c : w6.cell? ⟨gh, 8, none⟩ = some (.slice A5 (L'.length - 64) c5) := (cell_at _ _ _ _ _ _ hh6).trans (by rw [hc_set_rest]; exact hc_rest _ _ _)
        rw [hc_set_rest] at hh6
        have hne6 : (Value.slice A5 (L'.length - 64) c5).ownBlock ≠ some gh := by
          rcases hat5 with h | h
          · intro h2; rw [h] at h2; exact Nat.ne_of_gt (lt_of_block hh4) (Option.some.inj h2)
          · intro h2; rw [h] at h2; have := lt_of_block hh4; have h3 := Option.some.inj h2; rw [World.size_alloc] at h3; omega
        have ho6 := ho5.same hs6 (fun k hk h => hne6 (by rw [hk, h]))
        have h4B : B ≤ w4.heap.size := Nat.le_trans (Nat.le_trans hBw hrb.size) hz4
        have hdl : (L'.drop 64).length = L'.length - 64 := List.length_drop
        go_roundw
        case rel =>
          refine ⟨compress s' (L'.take 64), A5, c5, L'.drop 64, ?_, ?_, ?_, (((hrb.trans hB4).alloc h4B _).grown hg5 (by rw [World.size_alloc]; omega) ?_).trans ((hs6.below_of (by have := hg5.size; rw [World.size_alloc] at this; omega) fun k _ h => by omega)), by rw [← hre, eatAll_step s' L' h64], by omega⟩
          · rw [hdl]; exact hh6
          · rw [hdl]; exact ho6
          · rw [hdl]; exact hne6
          · intro k hk; have h := Option.some.inj (show some w4.heap.size = some k from hk); omega
        case measure => unfold restLen; rw [h6c, c8]; exact Nat.sub_lt (Nat.lt_of_lt_of_le (by decide) h64) (by decide)
    · have htt : decide (64 ≤ (L'.length : Int)) = false := by simp; omega
      go_wp2_with fail
      go_end0
      rw [eatAll_small _ _ (by omega)] at hre
      refine ⟨_, rfl, ?_, ?_, hrn, hrb⟩
      · rw [HL.out, HN.out, ← hre]; exact hr
      · rw [HL.out, ← hre]; exact hro
end Go.Proofs.Ytgjkobokffiajaa
