/-
  What the structs of milepostlaw21 are when they come in.
-/
import Derived.Test.YtpocidlfjakmlaaRollI
import Derived.Test.YtpocidlfjakmlaaShut
set_option linter.unusedSimpArgs false
set_option linter.unusedVariables false
namespace Go.Proofs.Ytpocidlfjakmlaa
open Go Go.Sx Go.ChangeShapes Go.WideShapes

theorem ints_all {w : World} {r : Reach} {base : Nat} : ∀ l : List Value, (∀ x ∈ l, Cell.okWide Try.prog w r base 3 x) → ∃ m : List Int, l = m.map (Value.int .i64)
  | [], _ => ⟨[], rfl⟩
  | x :: l, h => by
    obtain ⟨n, rfl, _⟩ := cell_int Try.underlying3 (h x List.mem_cons_self)
    obtain ⟨m, rfl⟩ := ints_all l fun y hy => h y (List.mem_cons_of_mem _ hy)
    exact ⟨n :: m, rfl⟩
theorem ract_of {w : World} {r : Reach} {base : Nat} {v : Value} (h : Value.okWide Try.prog w r base 56 v) : ∃ a : Int × Int × Int × Int × Int × Int, v = .agg #[.int .i64 a.1, .int .i64 a.2.1, .int .i64 a.2.2.1, .int .i64 a.2.2.2.1, .int .i64 a.2.2.2.2.1, .int .i64 a.2.2.2.2.2] := by
  obtain ⟨l, rfl, hl, hc⟩ := agg_cells Try.underlying56 (n := 6) (ts := [3, 3, 3, 3, 3, 3]) (by kernel_rfl) (by kernel_rfl) h
  obtain ⟨m, rfl⟩ := ints_all l fun x hx => by
    obtain ⟨i, hi, rfl⟩ := List.mem_iff_getElem.1 hx
    obtain ⟨u, e, h⟩ := hc i _ (List.getElem?_eq_getElem hi)
    have : i < 6 := by omega
    have : u = 3 := by
      have h6 : i = 0 ∨ i = 1 ∨ i = 2 ∨ i = 3 ∨ i = 4 ∨ i = 5 := by omega
      rcases h6 with rfl | rfl | rfl | rfl | rfl | rfl <;> (simp at e; exact e.symm)
    subst this
    exact h
  match m, hl with
  | [a, b, c, d, e, f], _ => exact ⟨(a, b, c, d, e, f), rfl⟩
theorem rask_of {w : World} {r : Reach} {base : Nat} {v : Value} (h : Value.okWide Try.prog w r base 51 v) : ∃ a : Int × Int × Int × Int, v = .agg #[.int .i64 a.1, .int .i64 a.2.1, .int .i64 a.2.2.1, .int .i64 a.2.2.2] := by
  obtain ⟨l, rfl, hl, hc⟩ := agg_cells Try.underlying51 (n := 4) (ts := [3, 3, 3, 3]) (by kernel_rfl) (by kernel_rfl) h
  obtain ⟨m, rfl⟩ := ints_all l fun x hx => by
    obtain ⟨i, hi, rfl⟩ := List.mem_iff_getElem.1 hx
    obtain ⟨u, e, h⟩ := hc i _ (List.getElem?_eq_getElem hi)
    have : i < 4 := by omega
    have : u = 3 := by
      have h6 : i = 0 ∨ i = 1 ∨ i = 2 ∨ i = 3 := by omega
      rcases h6 with rfl | rfl | rfl | rfl <;> (simp at e; exact e.symm)
    subst this
    exact h
  match m, hl with
  | [a, b, c, d], _ => exact ⟨(a, b, c, d), rfl⟩
end Go.Proofs.Ytpocidlfjakmlaa
