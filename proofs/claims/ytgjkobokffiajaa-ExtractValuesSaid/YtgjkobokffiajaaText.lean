/- Texts: equality, the law's guard, the first place at which two lists of texts part. -/
import Derived.Test.YtgjkobokffiajaaShaSum
import Derived.Laws.IdiomStrings
namespace Go.Proofs.Ytgjkobokffiajaa
open Go.RowKit
set_option maxRecDepth 100000
set_option maxHeartbeats 1000000
/-- The string of bytes. -/
def str (l : List UInt8) : ByteArray := ⟨l.toArray⟩
theorem str_inj {l m : List UInt8} : str l = str m ↔ l = m := by
  constructor
  · intro h
    have h1 : l.toArray = m.toArray := congrArg ByteArray.data h
    simpa using h1
  · rintro rfl; rfl
theorem Bs.conv {w : World} {S : Nat → Prop} {v : Value} {l : List UInt8} (h : Bs w S v l) : (convert 25 9 v).run Try.prog w = .ok (.string (str l)) w := by
  obtain ⟨_, A, c, rfl, _, _, hp⟩ := h
  rcases Nat.eq_zero_or_pos l.length with h0 | h0
  · have hl : l = [] := List.eq_nil_of_length_eq_zero h0
    subst hl
    cases A with
    | none => exact run_convert_bytes_nil w 25 5 Try.underlying25 Try.underlying5 0 c 9 Try.underlying9
    | some a => exact run_convert_bytes_back w 25 9 5 a c [] Try.underlying25 Try.underlying5 Try.underlying9 (fun j hj => absurd hj (Nat.not_lt_zero _))
  · obtain ⟨g, o, rfl, _, _, hc⟩ := hp h0
    exact run_convert_bytes_back w 25 9 5 ⟨g, o, none⟩ c l Try.underlying25 Try.underlying5 Try.underlying9 (fun j hj => by rw [Addr.add_lit]; exact hc j _ (bv_at l j hj))
theorem str_beq (l m : List UInt8) : ((str l).toList == (str m).toList) = decide (l = m) := by
  rw [str, str, ByteArray.toList_mk, ByteArray.toList_mk]
  by_cases h : l = m <;> simp [h]
theorem Bs.again {w w' : World} {S : Nat → Prop} {v : Value} {l : List UInt8} (h : Bs w S v l) (hs : Same (fun _ => True) w w') : Bs w' S v l := Rd.same h hs fun _ _ _ => trivial
theorem equal_calls (w : World) (S T : Nat → Prop) (a b : Value) (l m : List UInt8) (ha : Bs w S a l) (hb : Bs w T b m) :
    Calls Try.prog 37 #[a, b] w fun e w' => e = .returned (.bool (decide (l = m))) ∧ w' = w := by
  have h1 := ha.conv
  have h2 := hb.conv
  go_enter Try.func37, Try.ntmps37
  go_wp2_with fail
  go_ret
  exact ⟨congrArg (fun b => Ending.returned (.bool b)) (str_beq l m), rfl⟩
/-! ### What the law asks of its texts; the first place at which they part -/
def IsDiff (ts us : List (List UInt8)) (i : Nat) : Prop := i < ts.length ∧ i < us.length ∧ ts.getD i [] ≠ us.getD i [] ∧ ∀ j, j < i → ts.getD j [] = us.getD j []
def NoDiff (ts us : List (List UInt8)) : Prop := ∀ j, j < ts.length → j < us.length → ts.getD j [] = us.getD j []
theorem IsDiff.unique {ts us : List (List UInt8)} {i j : Nat} (h : IsDiff ts us i) (k : IsDiff ts us j) : i = j := by
  rcases Nat.lt_trichotomy i j with hij | rfl | hij
  · exact absurd (k.2.2.2 i hij) h.2.2.1
  · rfl
  · exact absurd (h.2.2.2 j hij) k.2.2.1
theorem IsDiff.not {ts us : List (List UInt8)} {i : Nat} (h : IsDiff ts us i) (k : NoDiff ts us) : False := h.2.2.1 (k i h.1 h.2.1)
theorem Ts.get {w : World} {S : Nat → Prop} {A : Option Addr} {n c : Nat} {ts : List (List UInt8)} (h : Ts w S (.slice A n c) ts) :
    n = ts.length ∧ n ≤ c ∧ c ≤ maxLen ∧ ∀ i (hi : i < ts.length), ∃ g o u, A = some ⟨g, o, none⟩ ∧ S g ∧ g < w.heap.size ∧ w.cell? ⟨g, o + i, none⟩ = some u ∧ Bs w S u (ts.getD i []) := by
  obtain ⟨vs, hvl, ⟨_, A', c', hv, hnc, hcm, hp⟩, hpart⟩ := h
  simp only [Value.slice.injEq] at hv
  obtain ⟨rfl, rfl, rfl⟩ := hv
  refine ⟨rfl, hnc, hcm, fun i hi => ?_⟩
  obtain ⟨g, o, rfl, hS, hg, hcell⟩ := hp (by omega)
  obtain ⟨u, hu⟩ : ∃ u, vs[i]? = some u := ⟨vs[i]'(by omega), List.getElem?_eq_getElem (by omega)⟩
  refine ⟨g, o, u, rfl, hS, hg, hcell i u hu, ?_⟩
  rw [show ts.getD i [] = ts[i] by simp [List.getD, hi]]
  exact hpart i hi u hu
theorem Ts.shape {w : World} {S : Nat → Prop} {v : Value} {ts : List (List UInt8)} (h : Ts w S v ts) : ∃ A c, v = .slice A ts.length c := by
  obtain ⟨vs, hvl, ⟨_, A', c', hv, hnc, hcm, hp⟩, hpart⟩ := h
  exact ⟨A', c', hv⟩
theorem flat_bound (ts : List (List UInt8)) (k : Nat) (hbig : ∀ t ∈ ts, t.length ≤ 140737488355328) (h : ts.length ≤ 100) : (ts.take k).flatten.length ≤ 14073748835532800 := by
  have h1 : ∀ l : List (List UInt8), (∀ t ∈ l, t.length ≤ 140737488355328) → l.flatten.length ≤ l.length * 140737488355328 := by
    intro l
    induction l with
    | nil => intro _; simp
    | cons x l ih =>
      intro h
      have h2 := ih fun t ht => h t (List.mem_cons_of_mem _ ht)
      have h3 := h x (List.mem_cons_self ..)
      rw [List.flatten_cons, List.length_append, List.length_cons, Nat.add_mul]
      omega
  have h2 := flat_le ts k
  have h3 := h1 ts hbig
  omega
theorem wrap64_in' (n : Int) (h : 0 ≤ n) (k : n ≤ 9223372036854775807) : wrap64 n = n := IntWalk.wrap64_in n ⟨by omega, k⟩
def FewOk (ts : List (List UInt8)) (most : Nat) (b : Bool) : Prop := b = true → ts.flatten.length ≤ most ∧ ts.length ≤ 100
def FewPost (ts : List (List UInt8)) (most : Nat) (w : World) (e : Ending) (w' : World) : Prop := ∃ b : Bool, e = .returned (.bool b) ∧ FewOk ts most b ∧ w' = w
theorem Ts.again {w w' : World} {S : Nat → Prop} {v : Value} {ts : List (List UInt8)} (h : Ts w S v ts) (hs : Same (fun _ => True) w w') : Ts w' S v ts := by
  obtain ⟨vs, h1, h2, h3⟩ := h
  exact ⟨vs, h1, Rd.same h2 hs fun _ _ _ => trivial, fun i hi u hu => Bs.again (h3 i hi u hu) hs⟩
theorem few_calls (w : World) (S : Nat → Prop) (v : Value) (ts : List (List UInt8)) (most : Nat) (hts : Ts w S v ts) (hbig : ∀ t ∈ ts, t.length ≤ 140737488355328) (hm : most ≤ 1000000) :
    Calls Try.prog 10 #[v, .int .i64 (most : Int)] w fun e w' => FewPost ts most w e w' := by
  obtain ⟨A, c, rfl⟩ := hts.shape
  obtain ⟨_, hnc, hcm, hget⟩ := hts.get
  have hlm : ts.length ≤ 9223372036854775807 := Nat.le_trans hnc hcm
  have hmi : (most : Int) ≤ 1000000 := by omega
  go_enter Try.func10, Try.ntmps10
  go_wp2_with fail
  go_loopw [5, 6] (fun x i wr => ∃ (k : Nat) (n : Int), x = .int .i64 n ∧ i = .int .i64 (k : Int) ∧ k ≤ ts.length ∧ (ts.length ≤ 100 → n = ((ts.take k).flatten.length : Int)) ∧ wr = w) (fun _ i _ => ts.length - (intOf i).toNat)
  case atStart => exact ⟨0, 0, rfl, rfl, Nat.zero_le _, fun _ => by simp, rfl⟩
  case round =>
    obtain ⟨k, n, rfl, rfl, hk, hn, rfl⟩ := hrel
    have hki : (k : Int) ≤ 9223372036854775807 := by omega
    by_cases hkt : k < ts.length
    · have hcond : decide ((k : Int) < (ts.length : Int)) = true := by simp; omega
      have hk1 : (k : Int) < 9223372036854775807 := by omega
      obtain ⟨g, o, u, rfl, _, _, hu, hbs⟩ := hget k hkt
      obtain ⟨_, A1, c1, rfl, _, _, _⟩ := hbs
      go_wp2_with fail
      have htk := flat_succ ts k hkt
      have hgk : ts.getD k [] = ts[k] := by simp [List.getD, hkt]
      go_roundw
      case rel =>
        refine ⟨k + 1, _, rfl, by go_num, hkt, fun h100 => ?_, trivial⟩
        have e1 := hn h100
        have e2 := hbig _ (List.getElem_mem hkt)
        have e3 := flat_bound ts k hbig h100
        rw [htk, List.length_append, e1]
        rw [wrap64_in'] <;> omega
      case measure => simp [intOf]; omega
    · have hcond : decide ((k : Int) < (ts.length : Int)) = false := by simp; omega
      obtain rfl : k = ts.length := by omega
      go_wp2_with fail
      · go_ret
        refine ⟨_, rfl, fun hb => ?_, rfl⟩
        have h100 : ts.length ≤ 100 := by have h := of_decide_eq_true hb; omega
        have e1 := hn h100
        rw [List.take_length] at e1
        exact ⟨by omega, h100⟩
      · go_ret
        exact ⟨_, rfl, (fun hb => absurd hb (by decide)), rfl⟩
theorem none_calls (w : World) (n1 n2 c1 c2 : Nat) (A1 A2 : Option Addr) (ok : Bool) :
    Calls Try.prog 14 #[.slice A1 n1 c1, .slice A2 n2 c2, .bool ok] w fun e w' => e = .returned (.bool (!ok && decide (n1 = 0) && decide (n2 = 0))) ∧ w' = w := by
  go_enter Try.func14, Try.ntmps14
  cases ok <;> by_cases h1 : n1 = 0 <;> by_cases h2 : n2 = 0
  all_goals go_wp2_with fail
  all_goals go_ret
  all_goals exact ⟨by simp [h1, h2], rfl⟩
def RefPartPost (ts us : List (List UInt8)) (w : World) (e : Ending) (w' : World) : Prop :=
  ((∃ i : Nat, e = .returned (.int .i64 (i : Int)) ∧ IsDiff ts us i) ∨ (e = .returned (.int .i64 (-1)) ∧ NoDiff ts us)) ∧ Same (fun _ => True) w w'
theorem refpart_calls (w : World) (S : Nat → Prop) (a b : Value) (ts us : List (List UInt8)) (ha : Ts w S a ts) (hb : Ts w S b us) :
    Calls Try.prog 13 #[a, b] w fun e w' => RefPartPost ts us w e w' := by
  obtain ⟨A, ca, rfl⟩ := ha.shape
  obtain ⟨B, cb, rfl⟩ := hb.shape
  obtain ⟨_, hna, hma, hgeta⟩ := ha.get
  obtain ⟨_, hnb, hmb, hgetb⟩ := hb.get
  have hlm : ts.length ≤ 9223372036854775807 := Nat.le_trans hna hma
  have hlm2 : us.length ≤ 9223372036854775807 := Nat.le_trans hnb hmb
  go_enter Try.func13, Try.ntmps13
  go_wp2_with fail
  go_loopw [5] (fun i wr => ∃ (k : Nat), i = .int .i64 (k : Int) ∧ k ≤ ts.length ∧ k ≤ us.length ∧ (∀ j, j < k → ts.getD j [] = us.getD j []) ∧ Same (fun _ => True) w wr) (fun i _ => ts.length - (intOf i).toNat)
  case atStart => exact ⟨0, rfl, Nat.zero_le _, Nat.zero_le _, fun j hj => absurd hj (Nat.not_lt_zero _), Same.refl _ _⟩
  case round =>
    obtain ⟨k, rfl, hk, hk2, hsame, hs⟩ := hrel
    have hki : (k : Int) ≤ 9223372036854775807 := by omega
    by_cases hkt : k < ts.length
    · have hcond : decide ((k : Int) < (ts.length : Int)) = true := by simp; omega
      by_cases hku : k < us.length
      · have hcond2 : decide ((k : Int) < (us.length : Int)) = true := by simp; omega
        obtain ⟨g, o, u, rfl, _, _, hu, hbs⟩ := hgeta k hkt
        obtain ⟨g2, o2, u2, rfl, _, _, hu2, hbs2⟩ := hgetb k hku
        have hu := hs.cell hu trivial
        have hu2 := hs.cell hu2 trivial
        have hcv := (Bs.again hbs hs).conv
        have hcvd : ∀ n, _ := fun n => (Bs.again hbs (hs.drewN n)).conv
        have hcvd2 : ∀ n, _ := fun n => (Bs.again hbs2 (hs.drewN n)).conv
        have hcv2 := (Bs.again hbs2 hs).conv
        have gt : ts.getD k [] = ts[k] := by simp [List.getD, hkt]
        have gu : us.getD k [] = us[k] := by simp [List.getD, hku]
        by_cases hd : ts[k] = us[k]
        · have hq : ((str ts[k]).toList == (str us[k]).toList) = true := by rw [str_beq]; simpa using hd
          have HD := Lib.hid hd
          clear hd
          go_wp2_with fail
          go_quiet (fail)
          go_wp2_with fail
          go_roundw
          case rel =>
            refine ⟨k + 1, by go_num, hkt, hku, fun j hj => ?_, hs.drewN _⟩
            rcases Nat.lt_succ_iff_lt_or_eq.1 hj with h | rfl
            · exact hsame j h
            · rw [gt, gu, HD.out]
          case measure => simp [intOf]; omega
        · have hq : ((str ts[k]).toList == (str us[k]).toList) = false := by rw [str_beq]; simpa using hd
          go_wp2_with fail
          go_quiet (fail)
          go_wp2_with fail
          go_ret
          exact ⟨.inl ⟨k, rfl, hkt, hku, by rw [gt, gu]; exact hd, hsame⟩, hs.drewN _⟩
      · have hcond2 : decide ((k : Int) < (us.length : Int)) = false := by simp; omega
        go_wp2_with fail
        go_ret
        exact ⟨.inr ⟨rfl, fun j _ h2 => hsame j (by omega)⟩, hs⟩
    · have hcond : decide ((k : Int) < (ts.length : Int)) = false := by simp; omega
      go_wp2_with fail
      go_ret
      exact ⟨.inr ⟨rfl, fun j h1 _ => hsame j (by omega)⟩, hs⟩
def PartPost (ts us : List (List UInt8)) (w : World) (e : Ending) (w' : World) : Prop :=
  (∃ (i : Nat) (A1 A2 : Option Addr) (c1 c2 : Nat), e = .returned (.tuple #[.slice A1 (ts.getD i []).length c1, .slice A2 (us.getD i []).length c2, .bool true]) ∧ IsDiff ts us i ∧ Bs w' (fun k => w.heap.size ≤ k) (.slice A1 (ts.getD i []).length c1) (ts.getD i []) ∧ Bs w' (fun k => w.heap.size ≤ k) (.slice A2 (us.getD i []).length c2) (us.getD i []) ∧ Below w.heap.size w w') ∨
  (e = .returned (.tuple #[.slice none 0 0, .slice none 0 0, .bool false]) ∧ NoDiff ts us ∧ Below w.heap.size w w')
theorem wp_min {P : Program} {o : Oper} {a : Act} {w : World} {K : Act → World → Prop} {Q : Exit → Act → World → Prop} (x y : Operand) (t : TypeId)
    (ho : o.op = .call { callee := .builtin .min, args := #[x, y], argTypes := #[t, t] }) (m n : Nat) (hx : a.eval x = .int .i64 (m : Int)) (hy : a.eval y = .int .i64 (n : Int))
    (h : K (a.put o.dst (.int .i64 ((min m n : Nat) : Int))) w) : o.wp P a w K Q := by
  have hrun : (Builtin.min_ #[t, t] o.type #[a.eval x, a.eval y]).run P w = .ok (.int .i64 ((min m n : Nat) : Int)) w := by
    rw [hx, hy, run_min_int2]
    have hmn : ((min m n : Nat) : Int) = if (n : Int) < (m : Int) then (n : Int) else (m : Int) := by split <;> omega
    rw [hmn]
  unfold Oper.wp execOp
  simp only [ho, resolve, invoke, builtin, Sem.run_bind, Sem.run_pure, Result.andThen_ok, List.map_toArray, List.map_cons, List.map_nil, hrun]
  exact h
theorem part_calls (w : World) (S : Nat → Prop) (a b : Value) (ts us : List (List UInt8)) (ha : Ts w S a ts) (hb : Ts w S b us) (hbig : ∀ t ∈ ts, t.length ≤ 140737488355328) (hbig2 : ∀ t ∈ us, t.length ≤ 140737488355328) :
    Calls Try.prog 12 #[a, b] w fun e w' => PartPost ts us w e w' := by
  obtain ⟨A, ca, rfl⟩ := ha.shape
  obtain ⟨B, cb, rfl⟩ := hb.shape
  obtain ⟨_, hna, hma, hgeta⟩ := ha.get
  obtain ⟨_, hnb, hmb, hgetb⟩ := hb.get
  have hlm : ts.length ≤ 9223372036854775807 := Nat.le_trans hna hma
  have hlm2 : us.length ≤ 9223372036854775807 := Nat.le_trans hnb hmb
  go_enter Try.func12, Try.ntmps12
  obtain ⟨M, hM⟩ : ∃ M, M = min ts.length us.length := ⟨_, rfl⟩
  have HM := Lib.hid hM
  clear hM
  go_wp2_with (refine wpList_plain rfl fun _ hK => wp_min (.tmp 9) (.tmp 11) 3 rfl ts.length us.length rfl rfl (hK _ _ ?_))
  rw [← HM.out]
  go_loopw [13] (fun i wr => ∃ (k : Nat), i = .int .i64 (k : Int) ∧ k ≤ M ∧ (∀ j, j < k → ts.getD j [] = us.getD j []) ∧ Same (fun _ => True) w wr) (fun i _ => M - (intOf i).toNat)
  case atStart => exact ⟨0, rfl, Nat.zero_le _, fun j hj => absurd hj (Nat.not_lt_zero _), Same.refl _ _⟩
  case round =>
    obtain ⟨k, rfl, hkM, hsame, hs⟩ := hrel
    have hMl : M ≤ 9223372036854775807 := by have := HM.out; omega
    by_cases hk : k < M
    · have hcond : decide ((k : Int) < (M : Int)) = true := by simp; omega
      have hkt : k < ts.length := by have := HM.out; omega
      have hku : k < us.length := by have := HM.out; omega
      have hk1 : (k : Int) < 9223372036854775807 := by omega
      obtain ⟨g, o, u, rfl, _, _, hu, hbs⟩ := hgeta k hkt
      obtain ⟨g2, o2, u2, rfl, _, _, hu2, hbs2⟩ := hgetb k hku
      have hu := hs.cell hu trivial
      have hu2 := hs.cell hu2 trivial
      have gt : ts.getD k [] = ts[k] := by simp [List.getD, hkt]
      have gu : us.getD k [] = us[k] := by simp [List.getD, hku]
      have hq := fun n => equal_calls (wr.drewN n) S S u u2 _ _ (Bs.again hbs (hs.drewN n)) (Bs.again hbs2 (hs.drewN n))
      by_cases hd : ts.getD k [] = us.getD k []
      · rw [decide_eq_true hd] at hq
        have HD := Lib.hid hd
        clear hd gt gu
        go_wp2_with fail
        go_quiet ((go_at_call 37; exact (hq _).mono fun _ _ hh => ⟨hh.1, _, hh.2⟩))
        go_wp2_with fail
        go_roundw
        case rel =>
          refine ⟨k + 1, by go_num, hk, fun j hj => ?_, hs.drewN _⟩
          rcases Nat.lt_succ_iff_lt_or_eq.1 hj with h | rfl
          · exact hsame j h
          · exact HD.out
        case measure => simp [intOf]; omega
      · rw [decide_eq_false hd] at hq
        go_wp2_with fail
        go_quiet ((go_at_call 37; exact (hq _).mono fun _ _ hh => ⟨hh.1, _, hh.2⟩))
        go_wp2_with fail
        have hsN := hs.drewN nq
        have hu0 : (wr.drewN nq).cell? ⟨g, o + k, none⟩ = some u := hu
        have hu20 : (wr.drewN nq).cell? ⟨g2, o2 + k, none⟩ = some u2 := hu2
        have hb1 := (Bs.again hbs hsN)
        have hb2 := (Bs.again hbs2 hsN)
        have hl1 := hbig _ (List.getElem_mem hkt)
        have hl2 := hbig2 _ (List.getElem_mem hku)
        rw [← gt] at hl1
        rw [← gu] at hl2
        have HI : Hid (IsDiff ts us k) := Lib.hid ⟨hkt, hku, hd, hsame⟩
        clear hs hu hu2 hq hbs hbs2 hsame hd gt gu hgeta hgetb hbig hbig2 ha hb
        generalize wr.drewN nq = W0 at *
        have hz0 := hsN.size
        generalize hTX : ts.getD k [] = tx at *
        generalize hUX : us.getD k [] = ux at *
        have hbx : ∀ W, Same (fun _ => True) W0 W → Bs W (fun _ => True) u tx ∧ Bs W (fun _ => True) u2 ux := fun W h => ⟨Rd.any (Bs.again hb1 h), Rd.any (Bs.again hb2 h)⟩
        have hr0 := Same.refl (fun _ => True) W0
        clear hb1 hb2
        go_region_held_law (fun W => W.cell? ⟨g, o + k, none⟩ = some u ∧ W.cell? ⟨g2, o2 + k, none⟩ = some u2) (first | (exact ⟨hs5.cell hu0 trivial, hs5.cell hu20 trivial⟩) | (exact ⟨hs11.cell hu0 trivial, hs11.cell hu20 trivial⟩) | go_keep)
          (first
            | (refine step_append_b rfl (.tmp 26) (.tmp 30) rfl w.heap.size [] tx (fun _ => True) (by first | exact OwnB.lit (by first | exact hp_new rfl | exact hp_drew (hp_new rfl) | exact hp_new (World.size_alloc _ _).symm | exact hp_drew (hp_new (World.size_alloc _ _).symm) | exact hp_old (hp_new rfl) | exact hp_drew (hp_old (hp_new rfl)) | fail) (by rfl) rfl (by first | omega | (simp; omega) | simp | fail) (by decide) | fail) ((hbx _ (by (first | exact hr0 | exact Same.alloc hr0 _ | exact Same.drew (Same.alloc hr0 _) | exact Same.drew (Same.alloc (Same.alloc hr0 _) _) | exact Same.alloc (Same.alloc hr0 _) _ | exact Same.drew hr0 | fail))).1) (by first | omega | (simp; done) | (simp; omega) | fail) (by first | omega | (simp; done) | (simp; omega) | fail) ?_
               intro v5 w5 ho5 hg5 hat5
               have hs5 : Same (fun _ => True) W0 w5 := Same.grown (by (first | exact hr0 | exact Same.alloc hr0 _ | exact Same.drew (Same.alloc hr0 _) | exact Same.drew (Same.alloc (Same.alloc hr0 _) _) | exact Same.alloc (Same.alloc hr0 _) _ | exact Same.drew hr0 | fail)) hg5 (fun q hq _ h => by first | (have h := Option.some.inj (show some (q) = some (W0.heap.size) from h); omega) | (have h := Option.some.inj (show some (q) = some (W0.heap.size + 1) from h); omega))
               have hz5 := hs5.size
               have hz6 := hg5.size
               rw [List.nil_append] at ho5
               have hr5 := Same.refl (fun q => v5.ownBlock = some q) w5)
            | (refine step_append_b rfl (.tmp 32) (.tmp 36) rfl w.heap.size [] ux (fun _ => True)
                (by first | (first | exact OwnB.lit (by first | exact hp_new rfl | exact hp_drew (hp_new rfl) | exact hp_new (World.size_alloc _ _).symm | exact hp_drew (hp_new (World.size_alloc _ _).symm) | exact hp_old (hp_new rfl) | exact hp_drew (hp_old (hp_new rfl)) | fail) (by rfl) rfl (by first | omega | (simp; omega) | simp | fail) (by decide) | fail) | exact OwnB.lit ((Same.of_grown hg5).heap (by first | exact hp_new rfl | exact hp_drew (hp_new rfl) | exact hp_new (World.size_alloc _ _).symm | exact hp_drew (hp_new (World.size_alloc _ _).symm) | exact hp_old (hp_new rfl) | exact hp_drew (hp_old (hp_new rfl)) | fail) (fun h => by first | (have h := Option.some.inj (show some (W0.heap.size) = some (W0.heap.size + 1) from h); omega) | (have h := Option.some.inj (show some (W0.heap.size + 1) = some (W0.heap.size) from h); omega))) (by rfl) rfl (by omega) (by decide) | fail)
                ((hbx _ (by first | exact (by (first | exact hs5 | exact Same.alloc hs5 _ | exact Same.drew (Same.alloc hs5 _) | exact Same.drew (Same.alloc (Same.alloc hs5 _) _) | exact Same.alloc (Same.alloc hs5 _) _ | exact Same.drew hs5 | fail)) | exact (by (first | exact hr0 | exact Same.alloc hr0 _ | exact Same.drew (Same.alloc hr0 _) | exact Same.drew (Same.alloc (Same.alloc hr0 _) _) | exact Same.alloc (Same.alloc hr0 _) _ | exact Same.drew hr0 | fail)))).2) (by first | omega | (simp; done) | (simp; omega) | fail) (by have := hs5.size; first | omega | (simp; done) | (simp; omega) | fail) ?_
               intro v11 w11 ho11 hg11 hat11
               rw [List.nil_append] at ho11
               have hk5 : Same (fun q => v5.ownBlock = some q) w5 w11 := Same.grown (by (first | exact hr5 | exact Same.alloc hr5 _ | exact Same.drew (Same.alloc hr5 _) | exact Same.drew (Same.alloc (Same.alloc hr5 _) _) | exact Same.alloc (Same.alloc hr5 _) _ | exact Same.drew hr5 | fail)) hg11 (fun q hq hk h => by
                 first
                   | (have h := Option.some.inj (show some (q) = some (w5.heap.size) from h); omega)
                   | (rcases hat5 with h5 | h5 <;> rw [hk] at h5 <;> first
                       | (have h := Option.some.inj (show some q = some W0.heap.size from h); have h5 := Option.some.inj (show some q = some (W0.heap.size + 1) from h5); omega)
                       | (have h := Option.some.inj (show some q = some (W0.heap.size + 1) from h); have h5 := Option.some.inj (show some q = some W0.heap.size from h5); omega)
                       | (have h := Option.some.inj (show some q = some W0.heap.size from h); have h5 := Option.some.inj h5; simp at h5; omega)
                       | (have h := Option.some.inj (show some q = some (W0.heap.size + 1) from h); have h5 := Option.some.inj h5; simp at h5; omega)
                       | fail)
                   | fail)
               have hs11 : Same (fun _ => True) W0 w11 := Same.grown (by (first | exact hs5 | exact Same.alloc hs5 _ | exact Same.drew (Same.alloc hs5 _) | exact Same.drew (Same.alloc (Same.alloc hs5 _) _) | exact Same.alloc (Same.alloc hs5 _) _ | exact Same.drew hs5 | fail)) hg11 (fun q hq _ h => by have := hs5.size; first | (have h := Option.some.inj (show some (q) = some (W0.heap.size) from h); omega) | (have h := Option.some.inj (show some (q) = some (W0.heap.size + 1) from h); omega) | (have h := Option.some.inj (show some (q) = some (w5.heap.size) from h); omega)))
            | fail)
        all_goals go_wp2_with fail
        all_goals
          obtain ⟨A5, c5, hv5⟩ := ho5.shape
          obtain ⟨A11, c11, hv11⟩ := ho11.shape
          subst hv5
          subst hv11
          go_ret3
          refine .inl ⟨k, A5, A11, c5, c11, by first | (rw [hTX, hUX]; done) | (rw [hTX, hUX]; rfl), HI.out, ?_, ?_, (hsN.trans hs11).below_of (Nat.le_refl _) fun _ _ => trivial⟩
          · rw [hTX]; exact (Rd.same ho5.bs hk5 fun _ _ h => h).mono fun q _ h => (ho5.lt q h).1
          · rw [hUX]; exact ho11.bs.mono fun q _ h => (ho11.lt q h).1
    · have hcond : decide ((k : Int) < (M : Int)) = false := by simp; omega
      go_wp2_with fail
      go_ret3
      exact .inr ⟨rfl, fun j h1 h2 => hsame j (by have := HM.out; omega), hs.below_of (Nat.le_refl _) fun _ _ => trivial⟩
end Go.Proofs.Ytgjkobokffiajaa
