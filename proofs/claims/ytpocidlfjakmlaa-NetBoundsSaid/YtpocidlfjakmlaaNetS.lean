/-
  What a struct Act of milepostlaw17 is when it comes in.
-/
import Derived.Test.YtpocidlfjakmlaaNetF
import Derived.Test.YtpocidlfjakmlaaShut
set_option linter.unusedSimpArgs false
set_option linter.unusedVariables false
namespace Go.Proofs.Ytpocidlfjakmlaa
open Go Go.Sx Go.ChangeShapes Go.WideShapes

theorem nact_cells {w : World} {r : Reach} {base : Nat} {l : List Value} (hl : l.length = 5) (h : ∀ (i : Nat) (x : Value), l[i]? = some x → ∃ u, [3, 3, 3, 3, 9][i % 5]? = some u ∧ Cell.okWide Try.prog w r base u x) : ∃ a : NAct, l = encA a := by
  match l, hl with
  | [x0, x1, x2, x3, x4], _ =>
    obtain ⟨u0, e0, h0⟩ := h 0 x0 rfl; cases e0
    obtain ⟨u1, e1, h1⟩ := h 1 x1 rfl; cases e1
    obtain ⟨u2, e2, h2⟩ := h 2 x2 rfl; cases e2
    obtain ⟨u3, e3, h3⟩ := h 3 x3 rfl; cases e3
    obtain ⟨u4, e4, h4⟩ := h 4 x4 rfl; cases e4
    obtain ⟨a0, rfl, _⟩ := cell_int Try.underlying3 h0
    obtain ⟨a1, rfl, _⟩ := cell_int Try.underlying3 h1
    obtain ⟨a2, rfl, _⟩ := cell_int Try.underlying3 h2
    obtain ⟨a3, rfl, _⟩ := cell_int Try.underlying3 h3
    obtain ⟨a4, rfl⟩ := cell_str Try.underlying9 h4
    exact ⟨⟨a0, a1, a2, a3, a4⟩, rfl⟩
theorem nact_of {w : World} {r : Reach} {base : Nat} {v : Value} (h : Value.okWide Try.prog w r base 33 v) : ∃ a : NAct, v = .agg (encA a).toArray := by
  obtain ⟨l, rfl, hl, hc⟩ := agg_cells Try.underlying33 (n := 5) (ts := [3, 3, 3, 3, 9]) (by kernel_rfl) (by kernel_rfl) h
  obtain ⟨a, rfl⟩ := nact_cells hl hc
  exact ⟨a, rfl⟩
theorem nact_trod {H : Type} {enc : TypeId × Value → H} {w : World} (m : Nat) (cs : List Value) (x : DataW H × List MemPlace) (h : DataW.trod enc Try.prog w 0 (fun _ => true) true m 33 cs = some x) : ∃ a : NAct, cs = encA a := by
  obtain ⟨xs, n, _, _, hl, hxs, hf⟩ := DataW.trod_struct Try.underlying33 h
  rw [show Try.prog.cellsOf 33 = 5 by kernel_rfl] at hl
  have c3 : Try.prog.cellsOf 3 = 1 := by kernel_rfl
  have c9 : Try.prog.cellsOf 9 = 1 := by kernel_rfl
  have hxs : xs.length = 5 := hxs
  match cs, hl with
  | [x0, x1, x2, x3, x4], _ =>
    have g0 : DataW.trod enc Try.prog w 0 (fun _ => true) true n 3 (([x0, x1, x2, x3, x4].drop 0).take (Try.prog.cellsOf 3)) = xs[0]? := hf 0 _ rfl
    have g1 : DataW.trod enc Try.prog w 0 (fun _ => true) true n 3 (([x0, x1, x2, x3, x4].drop 1).take (Try.prog.cellsOf 3)) = xs[1]? := hf 1 _ rfl
    have g2 : DataW.trod enc Try.prog w 0 (fun _ => true) true n 3 (([x0, x1, x2, x3, x4].drop 2).take (Try.prog.cellsOf 3)) = xs[2]? := hf 2 _ rfl
    have g3 : DataW.trod enc Try.prog w 0 (fun _ => true) true n 3 (([x0, x1, x2, x3, x4].drop 3).take (Try.prog.cellsOf 3)) = xs[3]? := hf 3 _ rfl
    have g4 : DataW.trod enc Try.prog w 0 (fun _ => true) true n 9 (([x0, x1, x2, x3, x4].drop 4).take (Try.prog.cellsOf 9)) = xs[4]? := hf 4 _ rfl
    rw [List.getElem?_eq_getElem (by omega)] at g0 g1 g2 g3 g4
    rw [c3] at g0 g1 g2 g3
    rw [c9] at g4
    obtain ⟨a0, e0, _⟩ := DataW.trod_int Try.underlying3 g0
    obtain ⟨a1, e1, _⟩ := DataW.trod_int Try.underlying3 g1
    obtain ⟨a2, e2, _⟩ := DataW.trod_int Try.underlying3 g2
    obtain ⟨a3, e3, _⟩ := DataW.trod_int Try.underlying3 g3
    obtain ⟨a4, e4, _⟩ := DataW.trod_string Try.underlying9 g4
    simp only [List.drop_zero, List.drop_succ_cons, List.take_succ_cons, List.take_zero, List.cons.injEq, and_true] at e0 e1 e2 e3 e4
    exact ⟨⟨a0, a1, a2, a3, a4⟩, by rw [e0, e1, e2, e3, e4]; rfl⟩
theorem nact_slice {H : Type} {enc : TypeId × Value → H} {w : World} {r : Reach} {base : Nat} {v : Value} {d : DataW H} {ps : List MemPlace} (h : Value.okWide Try.prog w r base 22 v) (ht : DataW.Trod enc Try.prog w 0 (fun _ => true) true 22 v d ps) : ∃ l : List NAct, ArgSl w 5 v (l.map encA) := by
  obtain ⟨a, n, c, rfl⟩ := okWide_slice Try.underlying22 h
  exact arg_slice Try.underlying22 (by kernel_rfl) (by omega) nact_trod ht
end Go.Proofs.Ytpocidlfjakmlaa
