/-
  Words and laws over whatever program: what a world keeps ('Same'), what a slice reads ('Rd'), bytes, digests; append, slicing, loads and stores of whole arrays.
-/
import Derived.WalkKit
import Derived.Maps.AppendAt
import Derived.Deep.AppendLies
import Derived.Deep.Draws
import Derived.Laws.IdiomCopy
import Derived.KernelRfl
import Derived.StillTailTactics
namespace Go.Proofs.Ytgjkobokffiajaa
open Go.RowKit

/-- The blocks that S names are as they were; no block has gone. -/
structure Same (S : Nat → Prop) (w w' : World) : Prop where
  os : w'.os = w.os
  tape : w'.tape = w.tape
  output : w'.output = w.output
  size : w.heap.size ≤ w'.heap.size
  block : ∀ k, k < w.heap.size → S k → w'.heap[k]? = w.heap[k]?

namespace Same
variable {S T : Nat → Prop} {w w' w'' : World}
theorem refl (S : Nat → Prop) (w : World) : Same S w w := ⟨rfl, rfl, rfl, Nat.le_refl _, fun _ _ _ => rfl⟩
theorem trans (h : Same S w w') (k : Same S w' w'') : Same S w w'' :=
  ⟨k.os.trans h.os, k.tape.trans h.tape, k.output.trans h.output, Nat.le_trans h.size k.size, fun i hi hs => (k.block i (Nat.lt_of_lt_of_le hi h.size) hs).trans (h.block i hi hs)⟩
theorem mono (h : Same S w w') (hT : ∀ k, k < w.heap.size → T k → S k) : Same T w w' := ⟨h.os, h.tape, h.output, h.size, fun k hk ht => h.block k hk (hT k hk ht)⟩
theorem drew (h : Same S w w') : Same S w w'.drew := ⟨h.os, h.tape, h.output, h.size, h.block⟩
theorem drewN (h : Same S w w') (n : Nat) : Same S w (w'.drewN n) := ⟨h.os, h.tape, h.output, h.size, h.block⟩
theorem alloc (h : Same S w w') (o : Obj) : Same S w (w'.alloc o) :=
  ⟨h.os, h.tape, h.output, Nat.le_trans h.size (by simp), fun k hk hs => (Below.heap_alloc w' o k (Nat.lt_of_lt_of_le hk h.size)).trans (h.block k hk hs)⟩
theorem setCell (h : Same S w w') {a : Addr} (ha : a.block < w.heap.size → ¬ S a.block) (v : Value) : Same S w (w'.setCell a v) :=
  ⟨h.os, h.tape, h.output, by simpa [World.setCell] using h.size, fun k hk hs => (Below.heap_setCell w' a v k (by rintro rfl; exact ha hk hs)).trans (h.block k hk hs)⟩
theorem of_below {B : Nat} (h : Below B w w') : Same (· < B) w w' := ⟨h.os, h.tape, h.output, h.size, fun k _ hk => h.block k hk⟩
theorem all_of_below (h : Below w.heap.size w w') : Same (fun _ => True) w w' := ⟨h.os, h.tape, h.output, h.size, fun k hk _ => h.block k hk⟩
theorem below (h : Same S w w') (hS : ∀ k, k < w.heap.size → S k) : Below w.heap.size w w' := ⟨h.os, h.tape, h.output, h.size, fun k hk => h.block k hk (hS k hk)⟩
theorem below_of {B : Nat} (h : Same S w w') (hB : B ≤ w.heap.size) (hS : ∀ k, k < B → S k) : Below B w w' := ⟨h.os, h.tape, h.output, h.size, fun k hk => h.block k (Nat.lt_of_lt_of_le hk hB) (hS k hk)⟩
theorem of_grown {row : Option Nat} (h : w.grownBy w' row) : Same (fun k => some k ≠ row) w w' := ⟨h.os, h.tape, h.output, h.size, fun k hk hs => h.block k hk hs⟩
theorem grown (h : Same S w w') {row : Option Nat} (g : w'.grownBy w'' row) (hr : ∀ k, k < w.heap.size → S k → some k ≠ row) : Same S w w'' :=
  ⟨g.os.trans h.os, g.tape.trans h.tape, g.output.trans h.output, Nat.le_trans h.size g.size, fun k hk hs => (g.block k (Nat.lt_of_lt_of_le hk h.size) (hr k hk hs)).trans (h.block k hk hs)⟩
theorem heap (h : Same S w w') {g : Nat} {o : Obj} (hb : w.heap[g]? = some o) (hs : S g) : w'.heap[g]? = some o :=
  (h.block g (lt_of_block hb) hs).trans hb
theorem cell (h : Same S w w') {a : Addr} {v : Value} (hc : w.cell? a = some v) (hs : S a.block) : w'.cell? a = some v :=
  (World.cell?_of_block (h.block a.block (World.block_lt_of_cell? w a hc) hs)).trans hc
end Same

theorem below_drewN {B : Nat} {a w : World} (h : Below B a w) (n : Nat) : Below B a (w.drewN n) := ⟨h.os, h.tape, h.output, h.size, h.block⟩
/-- The slice value v shows n elements of 'size' cells each, xs in all; they lie in a block that S names. -/
def Rd (w : World) (S : Nat → Prop) (size : Nat) (v : Value) (n : Nat) (xs : List Value) : Prop :=
  xs.length = n * size ∧ ∃ A c, v = .slice A n c ∧ n ≤ c ∧ c ≤ maxLen ∧
    (0 < n → ∃ g o, A = some ⟨g, o, none⟩ ∧ S g ∧ g < w.heap.size ∧ ∀ j u, xs[j]? = some u → w.cell? ⟨g, o + j, none⟩ = some u)

namespace Rd
variable {S T : Nat → Prop} {w w' : World} {size n : Nat} {v : Value} {xs : List Value}
theorem len (h : Rd w S size v n xs) : xs.length = n * size := h.1
theorem same (h : Rd w S size v n xs) (hk : Same T w w') (hT : ∀ k, k < w.heap.size → S k → T k) : Rd w' S size v n xs := by
  obtain ⟨h1, A, c, hv, hn, hc, hp⟩ := h
  refine ⟨h1, A, c, hv, hn, hc, fun h0 => ?_⟩
  obtain ⟨g, o, hA, hs, hg, hcell⟩ := hp h0
  exact ⟨g, o, hA, hs, Nat.lt_of_lt_of_le hg hk.size, fun j u hu => hk.cell (hcell j u hu) (hT g hg hs)⟩
theorem mono (h : Rd w S size v n xs) (hT : ∀ k, k < w.heap.size → S k → T k) : Rd w T size v n xs := by
  obtain ⟨h1, A, c, hv, hn, hc, hp⟩ := h
  refine ⟨h1, A, c, hv, hn, hc, fun h0 => ?_⟩
  obtain ⟨g, o, hA, hs, hg, hcell⟩ := hp h0
  exact ⟨g, o, hA, hT g hg hs, hg, hcell⟩
theorem any (h : Rd w S size v n xs) : Rd w (fun _ => True) size v n xs := h.mono fun _ _ _ => trivial
theorem below (h : Rd w S size v n xs) (hb : Below w.heap.size w w') : Rd w' S size v n xs := h.same (Same.all_of_below hb) fun _ _ _ => trivial
theorem nil (w : World) (S : Nat → Prop) (size : Nat) : Rd w S size (.slice none 0 0) 0 [] := ⟨by simp, none, 0, rfl, Nat.le_refl _, Nat.zero_le _, fun h => absurd h (Nat.lt_irrefl _)⟩
theorem of_own {base : Nat} {e : TypeId} (h : w.ownsRow base e size v n xs) : Rd w (fun k => v.ownBlock = some k) size v n xs := by
  refine ⟨h.1, ?_⟩
  rcases h.2 with ⟨rfl, rfl⟩ | ⟨g, cap, cur, rfl, hb, hh, hn, hc, hs, ht⟩
  · exact ⟨none, 0, rfl, Nat.le_refl _, Nat.zero_le _, fun h0 => absurd h0 (Nat.lt_irrefl _)⟩
  · refine ⟨_, cap, rfl, hn, hc, fun _ => ⟨g, 0, rfl, rfl, lt_of_block hh, fun j u hu => ?_⟩⟩
    have := h.cells (g := g) rfl j u hu
    rw [Addr.add_lit] at this
    exact this
end Rd

/-- The cells of bytes. -/
def bv (l : List UInt8) : List Value := l.map fun b => .int .u8 b.toNat
theorem bv_length (l : List UInt8) : (bv l).length = l.length := by simp [bv]
theorem bv_append (l m : List UInt8) : bv (l ++ m) = bv l ++ bv m := by simp [bv]
theorem bv_get (l : List UInt8) (j : Nat) : (bv l)[j]? = (l[j]?).map fun b => Value.int .u8 b.toNat := by simp [bv]
theorem bv_at (l : List UInt8) (j : Nat) (h : j < l.length) : (bv l)[j]? = some (.int .u8 (l[j].toNat : Int)) := by simp [bv, h]
theorem bv_inj : ∀ {l m : List UInt8}, bv l = bv m → l = m
  | [], [], _ => rfl
  | [], _ :: _, h => by simp [bv] at h
  | _ :: _, [], h => by simp [bv] at h
  | a :: l, b :: m, h => by
    simp only [bv, List.map_cons, List.cons.injEq, Value.int.injEq, true_and] at h
    rw [bv_inj (l := l) (m := m) h.2, UInt8.toNat_inj.1 (Int.ofNat.inj h.1)]
theorem bv_one (l : List UInt8) : ∀ u ∈ bv l, u.oneCell' = true := by
  intro u hu
  simp only [bv, List.mem_map] at hu
  obtain ⟨b, _, rfl⟩ := hu
  rfl

/-- The slice value v shows the bytes l. -/
def Bs (w : World) (S : Nat → Prop) (v : Value) (l : List UInt8) : Prop := Rd w S 1 v l.length (bv l)

/-- A digest: 32 bytes. -/
abbrev Dig := { l : List UInt8 // l.length = 32 }
def da (d : Dig) : Array Value := (bv d.1).toArray
abbrev dg (d : Dig) : Value := .agg (da d)
theorem da_size (d : Dig) : (da d).size = 32 := by simp [da, bv_length, d.2]
theorem da_list (d : Dig) : (da d).toList = bv d.1 := by simp [da]
theorem da_inj {a b : Dig} (h : da a = da b) : a = b := by
  simp only [da] at h
  exact Subtype.ext (bv_inj (by simpa using h))
def dvs (ds : List Dig) : List Value := ds.flatMap fun d => bv d.1
theorem dvs_length : ∀ ds : List Dig, (dvs ds).length = ds.length * 32
  | [] => rfl
  | d :: ds => by
    simp only [dvs, List.flatMap_cons, List.length_append, bv_length, d.2, List.length_cons]
    have := dvs_length ds
    simp only [dvs] at this
    rw [this]
    omega
/-- The slice value v shows the digests ds. -/
def Ds (w : World) (S : Nat → Prop) (v : Value) (ds : List Dig) : Prop := Rd w S 32 v ds.length (dvs ds)
/-- The slice value v shows texts: each is a slice that shows its bytes. -/
def Ts (w : World) (S : Nat → Prop) (v : Value) (ts : List (List UInt8)) : Prop :=
  ∃ vs : List Value, vs.length = ts.length ∧ Rd w S 1 v ts.length vs ∧ ∀ i (h : i < ts.length) u, vs[i]? = some u → Bs w S u ts[i]

/-! ### Bytes in a block; a literal -/
theorem hp_new {w : World} {o : Obj} {k : Nat} (h : k = w.heap.size := by simp) : (w.alloc o).heap[k]? = some o := by subst h; exact heap_alloc_new w o
theorem hp_old {w : World} {o x : Obj} {k : Nat} (h : w.heap[k]? = some x) : (w.alloc o).heap[k]? = some x := (Below.heap_alloc w o k (lt_of_block h)).trans h
theorem hp_drew {w : World} {x : Obj} {k : Nat} (h : w.heap[k]? = some x) : w.drew.heap[k]? = some x := h
theorem hp_far {w : World} {x : Obj} {k : Nat} {a : Addr} {v : Value} (h : w.heap[k]? = some x) (hne : k ≠ a.block) : (w.setCell a v).heap[k]? = some x := (Below.heap_setCell w a v k hne).trans h
theorem heap_alloc_if (w : World) (o : Obj) (k : Nat) : (w.alloc o).heap[k]? = if k = w.heap.size then some o else w.heap[k]? := by
  show (w.heap.push o)[k]? = _
  rw [Array.getElem?_push]
@[simp] theorem heap_of_drew (w : World) : w.drew.heap = w.heap := rfl
theorem cell_at (w : World) (g j : Nat) (cs : Array Value) (t : TypeId) (fr : Nat × Nat) (hg : w.heap[g]? = some (.cells cs t fr)) : w.cell? ⟨g, j, none⟩ = cs[j]? := cell_of_row w g j cs t fr hg
theorem Rd.of_block {w : World} {S : Nat → Prop} {g n size : Nat} {cs : Array Value} {t : TypeId} {fr : Nat × Nat} (hb : w.heap[g]? = some (.cells cs t fr)) (hs : S g) (hn : cs.size = n * size) (hm : n ≤ maxLen) :
    Rd w S size (.slice (some ⟨g, 0, none⟩) n n) n cs.toList :=
  ⟨by simpa using hn, _, n, rfl, Nat.le_refl _, hm, fun _ => ⟨g, 0, rfl, hs, lt_of_block hb, fun j u hu => by
    rw [Nat.zero_add, cell_at w g j cs t fr hb]; simpa using hu⟩⟩
theorem Bs.of_dig {w : World} {S : Nat → Prop} {g : Nat} {d : Dig} {t : TypeId} {fr : Nat × Nat} (hb : w.heap[g]? = some (.cells (da d) t fr)) (hs : S g) :
    Bs w S (.slice (some ⟨g, 0, none⟩) 32 32) d.1 := by
  have h := Rd.of_block (n := 32) (size := 1) hb hs (by simp [da_size]) (by decide)
  rw [da_list] at h
  unfold Bs
  rw [d.2]
  exact h

/-! ### A store, a load, of however many cells, in a block that is known whole -/
def splice (cur : Array Value) (o : Nat) (vs : List Value) : Array Value := (cur.toList.take o ++ vs ++ cur.toList.drop (o + vs.length)).toArray
theorem splice_all {cur cs : Array Value} (h : cur.size = cs.size) : splice cur 0 cs.toList = cs := by
  simp only [splice, List.take_zero, List.nil_append, Nat.zero_add, Array.length_toList]
  rw [List.drop_of_length_le (by simp [h])]
  simp
theorem splice_size {cur : Array Value} {o : Nat} {vs : List Value} (h : o + vs.length ≤ cur.size) : (splice cur o vs).size = cur.size := by
  simp only [splice, List.size_toArray, List.length_append, List.length_take, List.length_drop, Array.length_toList]
  omega
theorem splice_get {cur : Array Value} {o : Nat} {vs : List Value} (h : o + vs.length ≤ cur.size) (j : Nat) :
    (splice cur o vs)[j]? = if j < o then cur[j]? else if j < o + vs.length then vs[j - o]? else cur[j]? := by
  simp only [splice, List.getElem?_toArray]
  have ht : (cur.toList.take o).length = o := by simp; omega
  by_cases h1 : j < o
  · rw [if_pos h1, List.append_assoc, List.getElem?_append_left (by omega)]
    simp [List.getElem?_take, h1]
  · rw [if_neg h1, List.append_assoc, List.getElem?_append_right (by omega), ht]
    by_cases h2 : j < o + vs.length
    · rw [if_pos h2, List.getElem?_append_left (by omega)]
    · rw [if_neg h2, List.getElem?_append_right (by omega), List.getElem?_drop]
      simp
      congr 1
      omega
section
variable {P : Program} {w : World} {o : Oper} {a : Act} {K : Act → World → Prop} {Q : Exit → Act → World → Prop}
theorem wp_store_at (t : TypeId) (x y : Operand) (ho : o.op = .store t x y) (g off : Nat) (hx : a.eval x = .pointer (some ⟨g, off, none⟩)) (cur : Array Value) (te : TypeId)
    (hb : w.heap[g]? = some (.cells cur te)) (hi : (P.info? t).map (·.size) = some (a.eval y).cells.size) (hfit : off + (a.eval y).cells.size ≤ cur.size)
    (h1 : ∀ u ∈ (a.eval y).cells.toList, u.oneCell' = true)
    (h : ∀ w', w'.heap[g]? = some (.cells (splice cur off (a.eval y).cells.toList) te) → Same (· ≠ g) w w' → K (a.put o.dst undef) w') : o.wp P a w K Q := by
  have hst := run_storeCells_at P g off te (a.eval y).cells.toList 0 cur w hb (by simpa using hfit) h1
  simp only [Nat.add_zero] at hst
  cases hq : P.info? t with
  | none => simp [hq] at hi
  | some i =>
    have hs : i.size = (a.eval y).cells.size := by simpa [hq] using hi
    have hrun : (Instr.storeAt t (a.eval x) (a.eval y)).run P w = .ok () (w.setRow g (splice cur off (a.eval y).cells.toList)) := by
      rw [hx]
      simp [Instr.storeAt, Instr.sureAddr, storeVar, Sem.run_bind, sizeOf, typeInfo, hq, hs, hst, splice]
    unfold Oper.wp execOp
    simp only [ho, Sem.run_bind, hrun, Sem.run_pure, Result.andThen_ok]
    exact h _ (setRow_heap w g cur _ te _ hb) ⟨rfl, rfl, rfl, by simp, fun k _ hk => setRow_other w g k _ hk⟩
/-- A whole row. -/
theorem wp_store_row (t : TypeId) (x y : Operand) (ho : o.op = .store t x y) (g : Nat) (hx : a.eval x = .pointer (some ⟨g, 0, none⟩)) (cs : Array Value) (hy : a.eval y = .agg cs) (old : Array Value) (te : TypeId)
    (hb : w.heap[g]? = some (.cells old te)) (hs : old.size = cs.size) (hi : (P.info? t).map (·.size) = some cs.size) (h1 : ∀ u ∈ cs.toList, u.oneCell' = true)
    (h : ∀ w', w'.heap[g]? = some (.cells cs te) → Same (· ≠ g) w w' → K (a.put o.dst undef) w') : o.wp P a w K Q :=
  wp_store_at t x y ho g 0 hx old te hb (by rw [hy]; exact hi) (by rw [hy]; simp [Value.cells, hs]) (by rw [hy]; exact h1)
    fun w' hb' hs' => h w' (by rw [hy] at hb'; simp only [Value.cells] at hb'; rw [splice_all hs] at hb'; exact hb') hs'
theorem wp_store_one (t : TypeId) (x y : Operand) (ho : o.op = .store t x y) (g off : Nat) (hx : a.eval x = .pointer (some ⟨g, off, none⟩)) (u : Value) (hy : a.eval y = u) (h1 : u.oneCell' = true) (cur : Array Value) (te : TypeId)
    (hb : w.heap[g]? = some (.cells cur te)) (hi : (P.info? t).map (·.size) = some 1) (hoff : off < cur.size)
    (h : ∀ w', w'.heap[g]? = some (.cells (splice cur off [u]) te) → Same (· ≠ g) w w' → K (a.put o.dst undef) w') : o.wp P a w K Q := by
  have hc : u.cells = #[u] := by cases u <;> simp_all [Value.cells, Value.oneCell']
  refine wp_store_at t x y ho g off hx cur te hb (by rw [hy, hc]; exact hi) (by rw [hy, hc]; exact hoff) (by rw [hy, hc]; simpa using h1) ?_
  intro w' hb' hs'
  rw [hy, hc] at hb'
  exact h w' hb' hs'
/-- An operation whose run is known. -/
theorem wp_run {v : Value} {w' : World} (h : (execOp a.eval o).run P w = .ok (.value v) w') (hk : K (a.put o.dst v) w') : o.wp P a w K Q := by
  unfold Oper.wp
  rw [h]
  exact hk
theorem wp_build (t : TypeId) (parts : Array (Nat × Operand)) (v : Value) (_ho : o.op = .build t parts) (h : (execOp a.eval o).run P w = .ok (.value v) w) (hk : K (a.put o.dst v) w) : o.wp P a w K Q := wp_run h hk
/-- A new variable; its zero by a name of one's own. -/
theorem wp_alloc (te : TypeId) (ho : o.op = .alloc te) (cs : Array Value) (hz : (P.info? te).map (fun i => (i.zero.map (·.cells), i.size)) = some (some cs, cs.size))
    (h : K (a.put o.dst (.pointer (some ⟨w.heap.size, 0, none⟩))) (w.alloc (.cells cs te))) : o.wp P a w K Q := by
  cases hq : P.info? te with
  | none => simp [hq] at hz
  | some i =>
    simp only [hq, Option.map_some, Option.some.injEq, Prod.mk.injEq] at hz
    obtain ⟨hz, hs⟩ := hz
    obtain ⟨z, hz1, hz2⟩ := Option.map_eq_some_iff.1 hz
    refine wp_run ?_ h
    unfold execOp
    simp only [ho, Instr.alloc]
    simp [zeroValue, typeInfo, hq, hz1, newVar, newRow, hz2]
theorem wp_alloc_at (g : Nat) (te : TypeId) (ho : o.op = .alloc te) (hg : w.heap.size = g) (cs : Array Value) (hz : (P.info? te).map (fun i => (i.zero.map (·.cells), i.size)) = some (some cs, cs.size))
    (h : K (a.put o.dst (.pointer (some ⟨g, 0, none⟩))) (w.alloc (.cells cs te))) : o.wp P a w K Q := by
  subst hg
  exact wp_alloc te ho cs hz h
/-- An element of an array that is no variable; elements of one cell. -/
theorem wp_index (t : TypeId) (x y : Operand) (ho : o.op = .index t x y) (cs : Array Value) (hx : a.eval x = .agg cs) (k : IntKind) (j len : Nat) (hy : a.eval y = .int k (j : Int)) (e : TypeId)
    (ht : P.underlying t = some (.array len e)) (hj : j < len) (u : Value) (hc : cs[j]? = some u) (he : (P.info? e).map (·.size) = some 1)
    (hd : ∃ d, P.underlying e = some d ∧ (match d with | .struct _ | .array _ _ => false | _ => true) = true)
    (h : K (a.put o.dst u) w) : o.wp P a w K Q := by
  refine wp_run ?_ h
  obtain ⟨d, hd1, hd2⟩ := hd
  have hagg : (isAgg e).run P w = .ok false w := by
    unfold isAgg
    rw [Sem.run_bind, run_underlying hd1 w]
    cases d <;> simp_all
  cases hq : P.info? e with
  | none => simp [hq] at he
  | some i =>
    have hs : i.size = 1 := by simpa [hq] using he
    unfold execOp
    simp only [ho, hx, hy, Instr.index]
    simp [asIntOf, run_underlying ht, sizeOf, typeInfo, hq, hs, part, hagg, hc, hj]
theorem wp_load_at (t : TypeId) (x : Operand) (ho : o.op = .load t x) (g off : Nat) (hx : a.eval x = .pointer (some ⟨g, off, none⟩)) (cs : Array Value) (d : TypeDesc)
    (hc : ∀ j u, cs.toList[j]? = some u → w.cell? ⟨g, off + j, none⟩ = some u)
    (hu : P.underlying t = some d) (hd : (match d with | .struct _ | .array _ _ => true | _ => false) = true) (hi : (P.info? t).map (·.size) = some cs.size)
    (h : K (a.put o.dst (.agg cs)) w) : o.wp P a w K Q := by
  have hl : (loadCells ⟨g, off, none⟩ cs.toList.length).run P w = .ok cs.toList.toArray w :=
    run_loadCells_list (P := P) w ⟨g, off, none⟩ cs.toList (fun j v hj => by rw [Addr.add_lit]; exact hc j v hj)
  cases hq : P.info? t with
  | none => simp [hq] at hi
  | some i =>
    have hs : i.size = cs.size := by simpa [hq] using hi
    have hagg : (isAgg t).run P w = .ok true w := by
      unfold isAgg
      rw [Sem.run_bind, run_underlying hu w]
      cases d <;> simp_all
    simp only [Array.length_toList, Array.toArray_toList] at hl
    have hrun : (Instr.loadAt t (a.eval x)).run P w = .ok (.agg cs) w := by
      rw [hx]
      simp [Instr.loadAt, Instr.sureAddr, loadVar, Sem.run_bind, hagg, sizeOf, typeInfo, hq, hs, hl]
    unfold Oper.wp execOp
    simp only [ho, Sem.run_bind, hrun, Sem.run_pure, Result.andThen_ok]
    exact h
end
/-- A region that draws its order: reads and still calls, then a tail in one order. -/
theorem region_tail {P : Program} {id : Nat} {Q : Exit → Act → World → Prop} {a : Act} {w : World} {l : List Oper} (n : Nat) (hm : P.follows .mixedOrders = true) (hB : Region.lexTailB .any l.toArray n = true)
    (h : ∀ W : World, W.heap = w.heap → (∀ a, W.cell? a = w.cell? a) → Same (fun _ => True) w W → wpStill P l.toArray W (fun a' => wpList P l.toArray Q (l.drop n) a' W) (l.take n) a) : (Code.region id l.toArray true).wp P Q a w :=
  wp_region_still_tail n hm hB (h { w with drawn := w.drawn + 1 } rfl (fun _ => rfl) ⟨rfl, rfl, rfl, Nat.le_refl _, fun _ _ _ => rfl⟩)
/-- A result in a cell of its own. -/
theorem ret_cell {P : Program} {fn : Func} {R : Ending → World → Prop} {a : Act} {w : World} {p : Tmp} {ty : TypeId} (h : fn.results = #[.cell p ty]) {g : Nat} {t : TypeId} {cs : Array Value} {fr : Nat × Nat} {d : TypeDesc}
    (hp : a.tmps.getD p undef = .pointer (some ⟨g, 0, none⟩)) (hg : w.heap[g]? = some (.cells cs t fr))
    (hu : P.underlying ty = some d) (hd : (match d with | .struct _ | .array _ _ => true | _ => false) = true) (hi : (P.info? ty).map (·.size) = some cs.size)
    (hdf : a.defers = []) (hR : R (.returned (.agg cs)) w) : bodyPost P fn R .ret a w :=
  bodyPost_ret (results_cell_row h a.tmps w g t cs fr d hp hg hu hd hi) hdf hR

/-! ### append onto a slice of the call's own, the source whatever reads -/
section
variable {P : Program} {w : World}
theorem run_append_rd (base : Nat) (t ty e : TypeId) (size bytes : Nat) (z : Value) (ht : P.underlying t = some (.slice e)) (hi : (P.info? e).map (fun i => (i.zero, i.size, i.bytes)) = some (some z, size, bytes))
    (hzs : z.cells.size = size) (hsz : 0 < size) (v : Value) (n : Nat) (xs : List Value) (hown : w.ownsRow base e size v n xs)
    (S : Nat → Prop) (x : Value) (m : Nat) (news : List Value) (hr : Rd w S size x m news) (h1 : ∀ u ∈ news, u.oneCell' = true)
    (h63 : n + m ≤ maxLen) (hbytes : (n + m) * bytes ≤ 140737488355328) (hbase : base ≤ w.heap.size) :
    ∃ v' w', (Builtin.append_ #[t, t] ty #[v, x]).run P w = .ok v' w' ∧ w'.ownsRow base e size v' (n + m) (xs ++ news) ∧ w.grownBy w' v.ownBlock ∧
      (v'.ownBlock = v.ownBlock ∨ v'.ownBlock = some w.heap.size) := by
  obtain ⟨i, hi0, hz0, hz1, hz2⟩ := info_parts hi
  obtain ⟨hl, A, c, rfl, hmc, hcm, hp⟩ := hr
  rcases Nat.eq_zero_or_pos m with rfl | hm
  · have hn : news = [] := List.eq_nil_of_length_eq_zero (by simpa using hl)
    subst hn
    refine ⟨v, w, ?_, by simpa using hown, World.grownBy.refl w _, .inl rfl⟩
    have hl : ∀ (x : Addr), (loadCells x 0).run P w = .ok #[] w := fun x => by simpa using run_loadCells_list (P := P) w x [] (by simp)
    rcases hown.2 with ⟨rfl, rfl⟩ | ⟨g, cap, cur, rfl, _, _, hnc, _⟩ <;> cases A <;>
      simp [Builtin.append_, run_underlying ht, sizeOf, typeInfo, hi0, Builtin.lenOf, Builtin.firstCells, storeCells, hl, *]
  · obtain ⟨g, o, rfl, _, _, hc⟩ := hp hm
    obtain ⟨v', w', hrun, h2, h3, _, h5⟩ := run_append_own_at (P := P) w base t ty e i z size bytes ht hi0 hz0 hz1 hz2 hzs hsz v n xs hown ⟨g, o, none⟩ m c news hl
      (fun j u hu => by rw [Addr.add_lit]; exact hc j u hu) h1 h63 hbytes hbase
    exact ⟨v', w', hrun, h2, h3, h5⟩
theorem wp_append_rd {o : Oper} {a : Act} {K : Act → World → Prop} {Q : Exit → Act → World → Prop} (s x : Operand) (t : TypeId)
    (ho : o.op = .call { callee := .builtin .append, args := #[s, x], argTypes := #[t, t] })
    (base : Nat) (e : TypeId) (size bytes : Nat) (z : Value) (ht : P.underlying t = some (.slice e)) (hi : (P.info? e).map (fun i => (i.zero, i.size, i.bytes)) = some (some z, size, bytes))
    (hzs : z.cells.size = size) (hsz : 0 < size) (n : Nat) (xs : List Value) (hown : w.ownsRow base e size (a.eval s) n xs)
    (S : Nat → Prop) (m : Nat) (news : List Value) (hr : Rd w S size (a.eval x) m news) (h1 : ∀ u ∈ news, u.oneCell' = true)
    (h63 : n + m ≤ maxLen) (hbytes : (n + m) * bytes ≤ 140737488355328) (hbase : base ≤ w.heap.size)
    (h : ∀ v' w', w'.ownsRow base e size v' (n + m) (xs ++ news) → w.grownBy w' (a.eval s).ownBlock → (v'.ownBlock = (a.eval s).ownBlock ∨ v'.ownBlock = some w.heap.size) → K (a.put o.dst v') w') : o.wp P a w K Q := by
  obtain ⟨v', w', hrun, h2, h3, h4⟩ := run_append_rd (P := P) base t o.type e size bytes z ht hi hzs hsz (a.eval s) n xs hown S (a.eval x) m news hr h1 h63 hbytes hbase
  unfold Oper.wp execOp
  simp only [ho, resolve, invoke, builtin, Sem.run_bind, Sem.run_pure, Result.andThen_ok, List.map_toArray, List.map_cons, List.map_nil, hrun]
  exact h v' w' h2 h3 h4
end

end Go.Proofs.Ytgjkobokffiajaa
