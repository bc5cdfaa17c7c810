/- What an argument of texts reads as; the frame of a law. -/
import Derived.Test.YtgjkobokffiajaaText
import Derived.Test.YtgjkobokffiajaaRows
import Derived.ProofKit
import Derived.OpenShut
import Derived.SizedLaws
import Derived.Deep.Matrix
namespace Go.Proofs.Ytgjkobokffiajaa
open Go.ChangeShapes Go.WideShapes Go.ChangeAt Go.RowKit
set_option maxRecDepth 100000
theorem own : ownKnob Try.prog.godebug = none := by kernel_rfl
theorem laidOut : laidOutB Try.prog = true := by kernel_rfl
theorem cells_u8 : Try.prog.cellsOf 5 = 1 := by kernel_rfl
theorem cells_bs : Try.prog.cellsOf 25 = 1 := by kernel_rfl
theorem bytes_u8 : Try.prog.bytesOf 5 = 1 := by kernel_rfl
theorem Rd.of_cells {w : World} {a : Addr} {n c : Nat} {xs : List Value} (hn : xs.length = n) (hc : n ≤ c) (hm : c ≤ maxLen) (h : ∀ j u, xs[j]? = some u → w.cell? (a.add j) = some u) : Rd w (fun _ => True) 1 (.slice (some a) n c) n xs := by
  refine ⟨by omega, some a, c, rfl, hc, hm, fun h0 => ?_⟩
  obtain ⟨u, hu⟩ : ∃ u, xs[0]? = some u := ⟨xs[0], List.getElem?_eq_getElem (by omega)⟩
  have h1 := h 0 u hu
  obtain ⟨b, off, spot⟩ := a
  have hspot : spot = none := by simpa [Addr.add] using World.cell?_spot h1
  subst hspot
  refine ⟨b, off, rfl, trivial, World.block_lt_of_cell? _ _ h1, fun j u hj => ?_⟩
  have := h j u hj
  rwa [Addr.add_lit] at this
/-- A byte's number. -/
def ub (n : Int) : UInt8 := UInt8.ofNat n.toNat
theorem ub_nat {n : Int} (h : (Lit.int .u8 n).wf = true) : ((ub n).toNat : Int) = n := by
  have hx : 0 ≤ n ∧ n ≤ 255 := by simpa [Lit.wf, IntKind.min, IntKind.max, IntKind.signed, IntKind.bits] using h
  simp only [ub, UInt8.toNat_ofNat']
  omega
theorem bytes_of {w : World} {A : Option Addr} {L C : Nat} {zs : List Int} (hl : L ≤ C) (hm : C ≤ maxLen) (hz : zs.length = C) (hw : ∀ n ∈ zs, (Lit.int .u8 n).wf = true) (hn : A = none → C = 0)
    (hc : ∀ a, A = some a → ∀ c, c < C → w.cell? (a.add c) = some (.int .u8 (zs.getD c 0))) : Bs w (fun _ => True) (.slice A L C) ((zs.take L).map ub) := by
  have hlen : ((zs.take L).map ub).length = L := by simp; omega
  unfold Bs
  rw [hlen]
  cases A with
  | none =>
    have := hn rfl
    obtain rfl : L = 0 := by omega
    exact ⟨by simp [bv], none, C, rfl, hl, hm, fun h => absurd h (Nat.lt_irrefl _)⟩
  | some a =>
    refine Rd.of_cells (by rw [bv_length, hlen]) hl hm fun j u hu => ?_
    rw [bv_get] at hu
    have hj : j < L := by
      rcases Nat.lt_or_ge j L with h | h
      · exact h
      · rw [List.getElem?_eq_none (by rw [hlen]; exact h)] at hu; cases hu
    rw [hc a rfl j (by omega)]
    rw [← hu]
    have hjz : j < zs.length := by omega
    simp only [List.getElem?_map, List.getElem?_take, hj, if_true, List.getElem?_eq_getElem hjz, Option.map_some, Option.some.injEq, Value.int.injEq, true_and]
    rw [ub_nat (hw _ (List.getElem_mem hjz))]
    simp [List.getD, hjz]
theorem weights_all {H : Type} {P : Program} {e : TypeId} : ∀ {l : List (DataW H)} {d : DataW H}, d ∈ l → ∀ n ∈ d.weights P e, n ∈ DataW.weightsAll P e l
  | x :: l, d, hd, n, hn => by
    simp only [DataW.weightsAll, List.mem_append]
    rcases List.mem_cons.1 hd with rfl | h
    · exact .inl hn
    · exact .inr (weights_all h n hn)
theorem texts_open {H : Type} {enc : TypeId × Value → H} {W : World} {base : Nat} {v : Value} {d : DataW H} {p : List MemPlace} (hok : Value.okWide Try.prog W .any base 22 v) (h : DataW.Trod enc Try.prog W 0 (fun _ => true) true 22 v d p)
    (hw : (d.weights Try.prog 22).all (· ≤ reachBytes) = true) : ∃ ts, Ts W (fun _ => True) v ts ∧ ∀ t ∈ ts, t.length ≤ 140737488355328 := by
  obtain ⟨a, len, cap, rfl⟩ := okWide_slice Try.underlying22 hok
  obtain ⟨fuel, hf⟩ := h
  rcases Deep.open_int_rows Try.underlying22 Try.underlying25 Try.underlying5 cells_bs cells_u8 hf with ⟨hcs, hx⟩ | ⟨a', len', cap', A, L, C, Z, hcs, hb, hl, hm, hx, hall⟩
  · simp [Value.cells] at hcs
    obtain ⟨rfl, rfl, rfl⟩ := hcs
    exact ⟨[], ⟨[], rfl, Rd.nil _ _ _, fun i hi => absurd hi (Nat.not_lt_zero _)⟩, by simp⟩
  · simp [Value.cells] at hcs
    obtain ⟨rfl, rfl, rfl⟩ := hcs
    simp only [Prod.mk.injEq] at hx
    obtain ⟨rfl, rfl⟩ := hx
    have hlen : ((List.range len).map fun r => ((Z r).take (L r)).map ub).length = len := by simp
    refine ⟨(List.range len).map fun r => ((Z r).take (L r)).map ub, ⟨(List.range len).map fun r => .slice (A r) (L r) (C r), by simp, ?_, fun i hi u hu => ?_⟩, fun t ht => ?_⟩
    · rw [hlen]
      refine Rd.of_cells (by simp) hl hm fun j u hu => ?_
      have hj : j < len := by
        rcases Nat.lt_or_ge j len with h | h
        · exact h
        · simp [List.getElem?_eq_none (show ((List.range len).map fun r => Value.slice (A r) (L r) (C r)).length ≤ j by simpa using h)] at hu
      rw [(hall j (by omega)).1]
      simpa [hj] using hu
    · have hi' : i < len := by simpa using hi
      obtain ⟨h1, h2, h3, h4, h5, h6, h7⟩ := hall i (by omega)
      obtain rfl : Value.slice (A i) (L i) (C i) = u := by simpa [hi'] using hu
      simp only [List.getElem_map, List.getElem_range]
      exact bytes_of h2 h3 h4 h5 h6 fun a ha c hc => (h7 a ha).2 c hc
    · obtain ⟨r, hr, rfl⟩ := List.mem_map.1 ht
      have hr' : r < len := List.mem_range.1 hr
      obtain ⟨h1, h2, h3, h4, h5, h6, h7⟩ := hall r (by omega)
      have hle : (((Z r).take (L r)).map ub).length ≤ C r := by simp; omega
      refine Nat.le_trans hle ?_
      cases hA : A r with
      | none => rw [h6 hA]; exact Nat.zero_le _
      | some a =>
        have hmem : C r * 1 ∈ (Deep.intRow (H := H) .u8 (A r) (L r) (Z r)).weights Try.prog 25 := by
          rw [hA]
          simp only [Deep.intRow, DataW.weights, Try.underlying25, bytes_u8, List.mem_cons]
          left
          simp [lits, h4]
          omega
        have hin : C r * 1 ∈ (DataW.slice (H := H) ((List.range len).map fun r => Deep.intRow .u8 (A r) (L r) (Z r)) ((List.range (cap - len)).map fun j => Deep.intRow .u8 (A (len + j)) (L (len + j)) (Z (len + j)))).weights Try.prog 22 := by
          simp only [DataW.weights, Try.underlying22, List.mem_cons, List.mem_append]
          exact .inr (.inl (weights_all (List.mem_map.2 ⟨r, hr, rfl⟩) _ hmem))
        have := List.all_eq_true.1 hw _ hin
        have h9 : C r * 1 ≤ reachBytes := of_decide_eq_true this
        have h10 : reachBytes ≤ 140737488355328 := by decide
        omega
end Go.Proofs.Ytgjkobokffiajaa
