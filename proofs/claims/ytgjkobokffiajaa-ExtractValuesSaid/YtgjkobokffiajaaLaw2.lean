/- What an argument that is a digest, or bytes, reads as. -/
import Derived.Test.YtgjkobokffiajaaLaw
import Derived.WideKeyArr2
import Derived.ChangeSlices
namespace Go.Proofs.Ytgjkobokffiajaa
open Go.ChangeShapes Go.WideShapes Go.ChangeAt Go.RowKit
set_option maxRecDepth 100000
theorem mapM_each {α β : Type} (f : α → Option β) : ∀ (l : List α) (ys : List β), l.mapM f = some ys → ∀ x ∈ l, ∃ y, f x = some y
  | [], _, _, x, hx => by cases hx
  | a :: l, ys, h, x, hx => by
    rw [List.mapM_cons] at h
    simp only [bind, Option.bind_eq_some_iff, pure] at h
    obtain ⟨y, hy, zs, hz, _⟩ := h
    rcases List.mem_cons.1 hx with rfl | hx
    · exact ⟨y, hy⟩
    · exact mapM_each f l zs hz x hx
theorem arr_dig : WideMaps.ArrKey Try.prog 32 5 32 := ⟨Try.underlying32, by kernel_rfl, by kernel_rfl, by kernel_rfl⟩
theorem dig_open {H : Type} {enc : TypeId × Value → H} {W : World} {base : Nat} {v : Value} {d : DataW H} {p : List MemPlace} (hok : Value.okWide Try.prog W .any base 32 v) (h : DataW.Trod enc Try.prog W 0 (fun _ => true) true 32 v d p) :
    ∃ D : Dig, v = dg D := by
  obtain ⟨xs, rfl, hn⟩ := WideMaps.okWide_arr arr_dig hok
  obtain ⟨fuel, hf⟩ := h
  cases fuel with
  | zero => simp [DataW.trod] at hf
  | succ m =>
    rw [DataW.trod_step] at hf
    unfold DataW.trodStep at hf
    simp only [Try.underlying32, Value.cells] at hf
    rw [if_pos (by rw [arr_dig.size]; simpa using hn)] at hf
    simp only [Option.map_eq_some_iff] at hf
    obtain ⟨ys, hy, _⟩ := hf
    have each : ∀ i, i < 32 → ∃ b : UInt8, xs.toList[i]? = some (.int .u8 (b.toNat : Int)) := fun i hi => by
      obtain ⟨y, hy⟩ := mapM_each _ _ _ hy i (List.mem_range.2 hi)
      rw [arr_dig.one] at hy
      obtain ⟨n, en, rfl, wn⟩ := DataW.trod_int Try.underlying5 hy
      refine ⟨ub n, ?_⟩
      rw [ub_nat wn]
      have hl : i < xs.toList.length := by simp [hn]; omega
      rw [Nat.mul_one, List.drop_eq_getElem_cons hl, List.take_succ_cons] at en
      simp only [List.take_zero, List.cons.injEq, and_true] at en
      rw [List.getElem?_eq_getElem hl, en]
    refine ⟨⟨(List.range 32).map fun i => if h : i < 32 then (each i h).choose else 0, by simp⟩, ?_⟩
    congr 1
    apply Array.ext_getElem?
    intro i
    by_cases hi : i < 32
    · have h1 := (each i hi).choose_spec
      rw [← Array.getElem?_toList, h1]
      simp [da, bv, hi]
    · rw [Array.getElem?_eq_none (by omega), Array.getElem?_eq_none (by rw [da_size]; omega)]
theorem bytes_open {H : Type} {enc : TypeId × Value → H} {W : World} {base : Nat} {v : Value} {d : DataW H} {p : List MemPlace} (hok : Value.okWide Try.prog W .any base 25 v) (h : DataW.Trod enc Try.prog W 0 (fun _ => true) true 25 v d p) :
    ∃ l, Bs W (fun _ => True) v l := by
  obtain ⟨a, len, cap, rfl⟩ := okWide_slice Try.underlying25 hok
  obtain ⟨fuel, hf⟩ := h
  rcases ChangeShapes.open_ints Try.underlying25 Try.underlying5 cells_u8 hf with ⟨hcs, _⟩ | ⟨a', len', cap', zs, hcs, hb, hl, hm, hz, hx, hc, hw⟩
  · simp [Value.cells] at hcs
    obtain ⟨rfl, rfl, rfl⟩ := hcs
    exact ⟨[], Rd.nil _ _ _⟩
  · simp [Value.cells] at hcs
    obtain ⟨rfl, rfl, rfl⟩ := hcs
    simp only [if_true] at hz
    exact ⟨_, bytes_of hl hm hz hw (fun h => by cases h) fun a ha c hcc => by cases ha; exact hc c (by omega)⟩
end Go.Proofs.Ytgjkobokffiajaa
