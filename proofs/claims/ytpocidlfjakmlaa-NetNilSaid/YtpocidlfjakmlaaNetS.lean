/-
  What a struct Act of milepostlaw17 is when it comes in.
-/
import Derived.Test.YtpocidlfjakmlaaNetE
import Derived.Test.YtpocidlfjakmlaaShut
set_option linter.unusedSimpArgs false
set_option linter.unusedVariables false
namespace Go.Proofs.Ytpocidlfjakmlaa
open Go Go.Sx

theorem nact_cells {w : World} {r : Reach} {base : Nat} {l : List Value} (hl : l.length = 5) (h : ∀ (i : Nat) (x : Value), l[i]? = some x → ∃ u, [3, 3, 3, 3, 9][i % 5]? = some u ∧ Cell.okWide Try.prog w r base u x) : ∃ a : NAct, l = encA a := by
  match l, hl with
  | [x0, x1, x2, x3, x4], _ =>
    obtain ⟨u0, e0, h0⟩ := h 0 x0 rfl; cases e0
    obtain ⟨u1, e1, h1⟩ := h 1 x1 rfl; cases e1
    obtain ⟨u2, e2, h2⟩ := h 2 x2 rfl; cases e2
    obtain ⟨u3, e3, h3⟩ := h 3 x3 rfl; cases e3
    obtain ⟨u4, e4, h4⟩ := h 4 x4 rfl; cases e4
    obtain ⟨a0, rfl, _⟩ := cell_int Try.underlying3 h0
    obtain ⟨a1, rfl, _⟩ := cell_int Try.underlying3 h1
    obtain ⟨a2, rfl, _⟩ := cell_int Try.underlying3 h2
    obtain ⟨a3, rfl, _⟩ := cell_int Try.underlying3 h3
    obtain ⟨a4, rfl⟩ := cell_str Try.underlying9 h4
    exact ⟨⟨a0, a1, a2, a3, a4⟩, rfl⟩
theorem nact_of {w : World} {r : Reach} {base : Nat} {v : Value} (h : Value.okWide Try.prog w r base 33 v) : ∃ a : NAct, v = .agg (encA a).toArray := by
  obtain ⟨l, rfl, hl, hc⟩ := agg_cells Try.underlying33 (n := 5) (ts := [3, 3, 3, 3, 9]) (by kernel_rfl) (by kernel_rfl) h
  obtain ⟨a, rfl⟩ := nact_cells hl hc
  exact ⟨a, rfl⟩
end Go.Proofs.Ytpocidlfjakmlaa
