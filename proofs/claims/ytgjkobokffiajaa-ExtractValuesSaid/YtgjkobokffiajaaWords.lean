/-
  The seat's own types in the words of Kit: bytes, texts, digests; append at each of them.
-/
import Derived.Test.YtgjkobokffiajaaKit
import Derived.Test.YtgjkobokffiajaaProg
import Derived.Deep.RegionWith
import Derived.Deep.RegionLaw
import Derived.BigQuiet
import Derived.WalkSpells
namespace Go.Proofs.Ytgjkobokffiajaa
open Go.RowKit

theorem info_u8 : (Try.prog.info? 5).map (fun i => (i.zero, i.size, i.bytes)) = some (some (.int .u8 0), 1, 1) := by kernel_rfl
theorem info_bs : (Try.prog.info? 25).map (fun i => (i.zero, i.size, i.bytes)) = some (some (.slice none 0 0), 1, 24) := by kernel_rfl
def zeroDig : Dig := ⟨List.replicate 32 0, by simp⟩
theorem info_dg : (Try.prog.info? 32).map (fun i => (i.zero, i.size, i.bytes)) = some (some (dg zeroDig), 32, 32) := by kernel_rfl

/-- The call's own bytes, texts, digests. -/
def OwnB (w : World) (base : Nat) (v : Value) (l : List UInt8) : Prop := w.ownsRow base 5 1 v l.length (bv l)
theorem OwnB.bs {w : World} {base : Nat} {v : Value} {l : List UInt8} (h : OwnB w base v l) : Bs w (fun k => v.ownBlock = some k) v l := Rd.of_own h
theorem OwnB.any {w : World} {base : Nat} {v : Value} {l : List UInt8} (h : OwnB w base v l) (S : Nat → Prop) (hS : ∀ k, base ≤ k → k < w.heap.size → S k) : Bs w S v l :=
  h.bs.mono fun k hk hv => hS k (h.lt k hv).1 hk

theorem OwnB.lit {w : World} {base g n : Nat} {l : List UInt8} {cs : Array Value} (hb : w.heap[g]? = some (.cells cs 5)) (hc : cs.toList = bv l) (hn : l.length = n) (hg : base ≤ g) (hm : n ≤ maxLen) :
    OwnB w base (.slice (some ⟨g, 0, none⟩) n n) l := by
  subst hn
  have hs : cs.size = l.length := by rw [← Array.length_toList, hc, bv_length]
  exact ⟨by simp [bv_length], .inr ⟨g, l.length, cs, rfl, hg, hb, Nat.le_refl _, hm, by simpa using hs, by rw [hc, List.take_of_length_le (by simp [bv_length])]⟩⟩

section
variable {w : World} {ops : Array Oper} {o : Oper} {a : Act} {K : Act → World → Prop} {Q : Exit → Act → World → Prop}
theorem wp_append_b (s x : Operand) (ho : o.op = .call { callee := .builtin .append, args := #[s, x], argTypes := #[25, 25] })
    (base : Nat) (l m : List UInt8) (S : Nat → Prop) (hown : OwnB w base (a.eval s) l) (hr : Bs w S (a.eval x) m)
    (hlen : l.length + m.length ≤ 140737488355328) (hbase : base ≤ w.heap.size)
    (h : ∀ v' w', OwnB w' base v' (l ++ m) → w.grownBy w' (a.eval s).ownBlock → (v'.ownBlock = (a.eval s).ownBlock ∨ v'.ownBlock = some w.heap.size) → K (a.put o.dst v') w') : o.wp Try.prog a w K Q :=
  wp_append_rd s x 25 ho base 5 1 1 (.int .u8 0) Try.underlying25 info_u8 rfl (by decide) l.length (bv l) hown S m.length (bv m) hr (bv_one m)
    (by simp only [maxLen]; omega) (by omega) hbase fun v' w' h1 h2 h3 => h v' w' (by unfold OwnB; rw [List.length_append, bv_append]; exact h1) h2 h3
theorem step_append_b {E : Prop} (hgd : o.guard = none) (s x : Operand) (ho : o.op = .call { callee := .builtin .append, args := #[s, x], argTypes := #[25, 25] })
    (base : Nat) (l m : List UInt8) (S : Nat → Prop) (hown : OwnB w base (a.eval s) l) (hr : Bs w S (a.eval x) m)
    (hlen : l.length + m.length ≤ 140737488355328) (hbase : base ≤ w.heap.size)
    (h : ∀ v' w', OwnB w' base v' (l ++ m) → w.grownBy w' (a.eval s).ownBlock → (v'.ownBlock = (a.eval s).ownBlock ∨ v'.ownBlock = some w.heap.size) → K (a.put o.dst v') w') :
    if Region.wanted o (yielded ops a.tmps) = true then o.wp Try.prog a w K Q else E := by
  rw [if_pos (by simp [Region.wanted, hgd])]
  exact wp_append_b s x ho base l m S hown hr hlen hbase h
theorem list_append_b {rest : List Oper} (hgd : o.guard = none) (s x : Operand) (ho : o.op = .call { callee := .builtin .append, args := #[s, x], argTypes := #[25, 25] })
    (base : Nat) (l m : List UInt8) (S : Nat → Prop) (hown : OwnB w base (a.eval s) l) (hr : Bs w S (a.eval x) m)
    (hlen : l.length + m.length ≤ 140737488355328) (hbase : base ≤ w.heap.size)
    (h : ∀ v' w', OwnB w' base v' (l ++ m) → w.grownBy w' (a.eval s).ownBlock → (v'.ownBlock = (a.eval s).ownBlock ∨ v'.ownBlock = some w.heap.size) → wpList Try.prog ops Q rest (a.put o.dst v') w') :
    wpList Try.prog ops Q (o :: rest) a w :=
  wpList_plain hgd fun _ hK => wp_append_b s x ho base l m S hown hr hlen hbase fun v' w' h1 h2 h3 => hK _ _ (h v' w' h1 h2 h3)
end

end Go.Proofs.Ytgjkobokffiajaa
