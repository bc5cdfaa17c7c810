/-
  Steps of a walk that leave a new world behind: append with all that is known of it; rows of the call's own side by side.
-/
import Derived.Test.YtgjkobokffiajaaKnows
import Derived.Test.YtgjkobokffiajaaExt
namespace Go.Proofs.Ytgjkobokffiajaa
open Go.RowKit

theorem Same.past {a b c : World} {g : Nat} (h : Same (fun _ => True) a b) (k : Same (· ≠ g) b c) (hg : a.heap.size ≤ g) : Same (fun _ => True) a c :=
  ⟨k.os.trans h.os, k.tape.trans h.tape, k.output.trans h.output, Nat.le_trans h.size k.size, fun i hi _ => (k.block i (Nat.lt_of_lt_of_le hi h.size) (by omega)).trans (h.block i hi trivial)⟩
/-- A block of a function's code. -/
def blockIn (n : Nat) : Code → Option Code
  | .block id c => if id = n then some (.block id c) else blockIn n c
  | .seq a b => match blockIn n a with
    | some c => some c
    | none => blockIn n b
  | .loop c => blockIn n c
  | .scope c => blockIn n c
  | .cond _ a b => match blockIn n a with
    | some c => some c
    | none => blockIn n b
  | _ => none
noncomputable def pieceOf (f : Func) (n : Nat) : Code := (f.body.bind (blockIn n)).getD .skip
/-- Two rows lie in two blocks. -/
def Apart (u v : Value) : Prop := ∀ k, u.ownBlock = some k → v.ownBlock ≠ some k
/-- Where the row v lies: where the row u lay, or in the block k. -/
def LiesAt (v u : Value) (k : Nat) : Prop := ∀ b, v.ownBlock = some b → u.ownBlock = some b ∨ b = k
theorem own_same {w w' : World} {T : Nat → Prop} {base : Nat} {e : TypeId} {size n : Nat} {v : Value} {xs : List Value} (h : w.ownsRow base e size v n xs) (hs : Same T w w') (hT : ∀ k, v.ownBlock = some k → T k) : w'.ownsRow base e size v n xs := by
  refine ⟨h.1, ?_⟩
  rcases h.2 with h2 | ⟨g, cap, cur, rfl, hb, hg, r⟩
  · exact .inl h2
  · exact .inr ⟨g, cap, cur, rfl, hb, hs.heap hg (hT g rfl), r⟩
theorem own_ext {w w' : World} {base : Nat} {e : TypeId} {size n : Nat} {v : Value} {xs : List Value} (h : w.ownsRow base e size v n xs) (hs : Same (fun _ => True) w w') : w'.ownsRow base e size v n xs := own_same h hs fun _ _ => trivial
theorem own_below {w w' : World} {base : Nat} {e : TypeId} {size n : Nat} {v : Value} {xs : List Value} (h : w.ownsRow base e size v n xs) (hb : base ≤ base) (hs : Same (fun _ => True) w w') : w'.ownsRow base e size v n xs := own_same h hs fun _ _ => trivial
/-- A row of the call's own where an append went by. -/
theorem own_by {w w' : World} {base n m c : Nat} {e : TypeId} {size : Nat} {u vs : Value} {A : Option Addr} {xs : List Value} (h : w.ownsRow base e size u n xs) (hap : Apart u vs) (hs : Same (fun k => vs.ownBlock ≠ some k) w w') (hl : LiesAt (.slice A m c) vs w.heap.size) :
    w'.ownsRow base e size u n xs ∧ Apart u (.slice A m c) := by
  refine ⟨own_same h hs fun k hk => hap k hk, fun k hk hv => ?_⟩
  rcases hl k hv with h1 | h1
  · exact hap k hk h1
  · have := (h.lt k hk).2; omega
theorem Rd.by {w w' : World} {size n : Nat} {v vs : Value} {xs : List Value} {B : Nat} (h : Rd w (fun k => k < B) size v n xs) (hb : ∀ k, vs.ownBlock = some k → B ≤ k) (hs : Same (fun k => vs.ownBlock ≠ some k) w w') : Rd w' (fun k => k < B) size v n xs :=
  h.same hs fun k _ hk hv => by have := hb k hv; omega
section
variable {P : Program} {w : World} {ops : Array Oper} {o : Oper} {a : Act} {Q : Exit → Act → World → Prop}
theorem wp_app {K : Act → World → Prop} (s x : Operand) (t : TypeId) (ho : o.op = .call { callee := .builtin .append, args := #[s, x], argTypes := #[t, t] })
    (e : TypeId) (size bytes : Nat) (z : Value) (ht : P.underlying t = some (.slice e)) (hi : (P.info? e).map (fun i => (i.zero, i.size, i.bytes)) = some (some z, size, bytes)) (hzs : z.cells.size = size) (hsz : 0 < size) (hby : bytes ≤ 1000)
    (vs vx : Value) (es : a.eval s = vs) (ex : a.eval x = vx) (base n m N : Nat) (xs news : List Value) (hN : n + m = N) (hown : w.ownsRow base e size vs n xs) (S : Nat → Prop) (hr : Rd w S size vx m news) (h1 : ∀ u ∈ news, u.oneCell' = true)
    (hlen : N ≤ 100000000) (hbase : base ≤ w.heap.size)
    (h : ∀ A c w', w'.ownsRow base e size (.slice A N c) N (xs ++ news) → Below base w w' → Same (fun k => vs.ownBlock ≠ some k) w w' → LiesAt (.slice A N c) vs w.heap.size → K (a.put o.dst (.slice A N c)) w') : o.wp P a w K Q := by
  subst es ex hN
  refine wp_append_rd s x t ho base e size bytes z ht hi hzs hsz n xs hown S m news hr h1 (by simp only [maxLen]; omega) ?_ hbase fun v' w' h2 h3 h4 => ?_
  · have : (n + m) * bytes ≤ 100000000 * 1000 := Nat.mul_le_mul hlen hby
    omega
  · obtain ⟨A, c, rfl⟩ : ∃ A c, v' = .slice A (n + m) c := by
      rcases h2.2 with ⟨rfl, h0⟩ | ⟨g, cap, cur, rfl, _⟩
      · exact ⟨none, 0, by rw [h0]⟩
      · exact ⟨_, _, rfl⟩
    refine h A c w' h2 ((Below.refl _ _).grown h3 hbase fun k hk => (hown.lt k hk).1) ⟨h3.os, h3.tape, h3.output, h3.size, fun k hk hne => h3.block k hk fun hh => hne hh.symm⟩ fun b hb => ?_
    rcases h4 with h4 | h4
    · exact .inl (h4 ▸ hb)
    · rw [h4] at hb; exact .inr (Option.some.inj hb).symm
theorem list_app {rest : List Oper} (hgd : o.guard = none) (s x : Operand) (t : TypeId) (ho : o.op = .call { callee := .builtin .append, args := #[s, x], argTypes := #[t, t] })
    (e : TypeId) (size bytes : Nat) (z : Value) (ht : P.underlying t = some (.slice e)) (hi : (P.info? e).map (fun i => (i.zero, i.size, i.bytes)) = some (some z, size, bytes)) (hzs : z.cells.size = size) (hsz : 0 < size) (hby : bytes ≤ 1000)
    (vs vx : Value) (es : a.eval s = vs) (ex : a.eval x = vx) (base n m N : Nat) (xs news : List Value) (hN : n + m = N) (hown : w.ownsRow base e size vs n xs) (S : Nat → Prop) (hr : Rd w S size vx m news) (h1 : ∀ u ∈ news, u.oneCell' = true)
    (hlen : N ≤ 100000000) (hbase : base ≤ w.heap.size)
    (h : ∀ A c w', w'.ownsRow base e size (.slice A N c) N (xs ++ news) → Below base w w' → Same (fun k => vs.ownBlock ≠ some k) w w' → LiesAt (.slice A N c) vs w.heap.size → wpList P ops Q rest (a.put o.dst (.slice A N c)) w') :
    wpList P ops Q (o :: rest) a w :=
  wpList_plain hgd fun _ hK => wp_app s x t ho e size bytes z ht hi hzs hsz hby vs vx es ex base n m N xs news hN hown S hr h1 hlen hbase fun A c w' a1 a2 a3 a4 => hK _ _ (h A c w' a1 a2 a3 a4)
end

/-! ### at the seat's own types -/
section
variable {w : World} {ops : Array Oper} {o : Oper} {a : Act} {Q : Exit → Act → World → Prop} {rest : List Oper}
theorem app_b (hgd : o.guard = none) (s x : Operand) (ho : o.op = .call { callee := .builtin .append, args := #[s, x], argTypes := #[25, 25] })
    (vs vx : Value) (es : a.eval s = vs) (ex : a.eval x = vx) (base : Nat) (l m : List UInt8) (N : Nat) (hN : l.length + m.length = N) (hown : OwnB w base vs l) (S : Nat → Prop) (hr : Bs w S vx m) (hlen : N ≤ 100000000) (hbase : base ≤ w.heap.size)
    (h : ∀ A c w', OwnB w' base (.slice A N c) (l ++ m) → Below base w w' → Same (fun k => vs.ownBlock ≠ some k) w w' → LiesAt (.slice A N c) vs w.heap.size → wpList Try.prog ops Q rest (a.put o.dst (.slice A N c)) w') :
    wpList Try.prog ops Q (o :: rest) a w :=
  list_app hgd s x 25 ho 5 1 1 (.int .u8 0) Try.underlying25 info_u8 rfl (by decide) (by decide) vs vx es ex base l.length m.length N (bv l) (bv m) hN hown S hr (bv_one m) hlen hbase
    fun A c w' h1 h2 h3 h4 => h A c w' (by unfold OwnB; rw [List.length_append, bv_append, hN]; exact h1) h2 h3 h4
theorem app_v (hgd : o.guard = none) (s x : Operand) (ho : o.op = .call { callee := .builtin .append, args := #[s, x], argTypes := #[22, 22] })
    (vs vx : Value) (es : a.eval s = vs) (ex : a.eval x = vx) (base : Nat) (l m : List Value) (N : Nat) (hN : l.length + m.length = N) (hown : OwnV w base vs l) (S : Nat → Prop) (hr : Rd w S 1 vx m.length m) (h1 : ∀ u ∈ m, u.oneCell' = true) (hlen : N ≤ 100000000) (hbase : base ≤ w.heap.size)
    (h : ∀ A c w', OwnV w' base (.slice A N c) (l ++ m) → Below base w w' → Same (fun k => vs.ownBlock ≠ some k) w w' → LiesAt (.slice A N c) vs w.heap.size → wpList Try.prog ops Q rest (a.put o.dst (.slice A N c)) w') :
    wpList Try.prog ops Q (o :: rest) a w :=
  list_app hgd s x 22 ho 25 1 24 (.slice none 0 0) Try.underlying22 info_bs rfl (by decide) (by decide) vs vx es ex base l.length m.length N l m hN hown S hr h1 hlen hbase
    fun A c w' h1 h2 h3 h4 => h A c w' (by unfold OwnV; rw [List.length_append, hN]; exact h1) h2 h3 h4
end
/-- Digests of the call's own. -/
def OwnD (w : World) (base : Nat) (v : Value) (ds : List Dig) : Prop := w.ownsRow base 32 32 v ds.length (dvs ds)
theorem OwnD.ds {w : World} {base : Nat} {v : Value} {ds : List Dig} (h : OwnD w base v ds) : Ds w (fun k => v.ownBlock = some k) v ds := Rd.of_own h
theorem dvs_append (a b : List Dig) : dvs (a ++ b) = dvs a ++ dvs b := by simp [dvs]
theorem dvs_one (ds : List Dig) : ∀ u ∈ dvs ds, u.oneCell' = true := by
  intro u hu
  simp only [dvs, List.mem_flatMap] at hu
  obtain ⟨d, _, hd⟩ := hu
  exact bv_one d.1 u hd
theorem OwnD.lit {w : World} {base g : Nat} {d : Dig} {cs : Array Value} (hb : w.heap[g]? = some (.cells cs 32)) (hc : cs = da d) (hg : base ≤ g) : OwnD w base (.slice (some ⟨g, 0, none⟩) 1 1) [d] := by
  subst hc
  exact ⟨by simp [dvs, bv_length, d.2], .inr ⟨g, 1, da d, rfl, hg, hb, Nat.le_refl _, by decide, by simp [da_size], by
    rw [da_list, List.take_of_length_le (by simp [bv_length, d.2])]
    simp [dvs]⟩⟩
section
variable {w : World} {ops : Array Oper} {o : Oper} {a : Act} {Q : Exit → Act → World → Prop} {rest : List Oper}
theorem app_d (hgd : o.guard = none) (s x : Operand) (ho : o.op = .call { callee := .builtin .append, args := #[s, x], argTypes := #[36, 36] })
    (vs vx : Value) (es : a.eval s = vs) (ex : a.eval x = vx) (base : Nat) (l m : List Dig) (N : Nat) (hN : l.length + m.length = N) (hown : OwnD w base vs l) (S : Nat → Prop) (hr : Ds w S vx m) (hlen : N ≤ 100000000) (hbase : base ≤ w.heap.size)
    (h : ∀ A c w', OwnD w' base (.slice A N c) (l ++ m) → Below base w w' → Same (fun k => vs.ownBlock ≠ some k) w w' → LiesAt (.slice A N c) vs w.heap.size → wpList Try.prog ops Q rest (a.put o.dst (.slice A N c)) w') :
    wpList Try.prog ops Q (o :: rest) a w :=
  list_app hgd s x 36 ho 32 32 32 (dg zeroDig) Try.underlying36 info_dg (by show (da zeroDig).size = 32; exact da_size _) (by decide) (by decide) vs vx es ex base l.length m.length N (dvs l) (dvs m) hN hown S hr (dvs_one m) hlen hbase
    fun A c w' h1 h2 h3 h4 => h A c w' (by unfold OwnD; rw [List.length_append, dvs_append, hN]; exact h1) h2 h3 h4
end
end Go.Proofs.Ytgjkobokffiajaa
