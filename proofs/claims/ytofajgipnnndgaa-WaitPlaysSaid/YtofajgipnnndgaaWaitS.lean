/-
  What a struct Act of milepostlaw19 is when it comes in.
-/
import Derived.Test.YtofajgipnnndgaaWaitE
import Derived.Test.YtofajgipnnndgaaShut2
set_option linter.unusedSimpArgs false
set_option linter.unusedVariables false
namespace Go.Proofs.Ytofajgipnnndgaa
open Go Go.Sx Go.ChangeShapes Go.WideShapes

theorem ints_of (k : IntKind) : ∀ l : List Value, (∀ x ∈ l, ∃ n, x = .int k n) → ∃ m : List Int, l = m.map (Value.int k)
  | [], _ => ⟨[], rfl⟩
  | x :: l, h => by
    obtain ⟨n, rfl⟩ := h x List.mem_cons_self
    obtain ⟨m, rfl⟩ := ints_of k l fun y hy => h y (List.mem_cons_of_mem _ hy)
    exact ⟨n :: m, rfl⟩
def WActOk : Type := { a : WAct // HeadOk a.head }
def encWo (a : WActOk) : List Value := encW a.1
theorem head_trod {H : Type} {enc : TypeId × Value → H} {w : World} {m : Nat} {cs : List Value} {x : DataW H × List MemPlace} (h : DataW.trod enc Try.prog w 0 (fun _ => true) true m 30 cs = some x) : ∃ l : List Int, l.length = 13 ∧ cs = l.map (Value.int .u8) := by
  obtain ⟨xs, n, _, _, hl, hxs, hf⟩ := DataW.trod_array Try.underlying30 h
  rw [show Try.prog.cellsOf 30 = 13 by kernel_rfl] at hl
  rw [show Try.prog.cellsOf 5 = 1 by kernel_rfl] at hf
  obtain ⟨l, rfl⟩ := ints_of .u8 cs fun y hy => by
    obtain ⟨i, hi, rfl⟩ := List.mem_iff_getElem.1 hy
    have g := hf i (by omega)
    rw [List.getElem?_eq_getElem (by omega)] at g
    obtain ⟨a, e, _⟩ := DataW.trod_int Try.underlying5 g
    rw [Nat.mul_one, List.drop_eq_getElem_cons hi] at e
    simp only [List.take_succ_cons, List.take_zero, List.cons.injEq, and_true] at e
    exact ⟨a, e⟩
  exact ⟨l, by simpa using hl, rfl⟩
theorem wact_trod {H : Type} {enc : TypeId × Value → H} {w : World} (m : Nat) (cs : List Value) (x : DataW H × List MemPlace) (h : DataW.trod enc Try.prog w 0 (fun _ => true) true m 50 cs = some x) : ∃ a : WActOk, cs = encWo a := by
  obtain ⟨xs, n, _, _, hl, hxs, hf⟩ := DataW.trod_struct Try.underlying50 h
  rw [show Try.prog.cellsOf 50 = 17 by kernel_rfl] at hl
  have c3 : Try.prog.cellsOf 3 = 1 := by kernel_rfl
  have c30 : Try.prog.cellsOf 30 = 13 := by kernel_rfl
  have hxs : xs.length = 5 := hxs
  have g0 : DataW.trod enc Try.prog w 0 (fun _ => true) true n 3 ((cs.drop 0).take (Try.prog.cellsOf 3)) = xs[0]? := hf 0 _ rfl
  have g1 : DataW.trod enc Try.prog w 0 (fun _ => true) true n 3 ((cs.drop 1).take (Try.prog.cellsOf 3)) = xs[1]? := hf 1 _ rfl
  have g2 : DataW.trod enc Try.prog w 0 (fun _ => true) true n 30 ((cs.drop 2).take (Try.prog.cellsOf 30)) = xs[2]? := hf 2 _ rfl
  have g3 : DataW.trod enc Try.prog w 0 (fun _ => true) true n 3 ((cs.drop 15).take (Try.prog.cellsOf 3)) = xs[3]? := hf 3 _ rfl
  have g4 : DataW.trod enc Try.prog w 0 (fun _ => true) true n 3 ((cs.drop 16).take (Try.prog.cellsOf 3)) = xs[4]? := hf 4 _ rfl
  rw [List.getElem?_eq_getElem (by omega)] at g0 g1 g2 g3 g4
  rw [c3] at g0 g1 g3 g4
  rw [c30] at g2
  obtain ⟨a0, e0, _⟩ := DataW.trod_int Try.underlying3 g0
  obtain ⟨a1, e1, _⟩ := DataW.trod_int Try.underlying3 g1
  obtain ⟨hd, h13, e2⟩ := head_trod g2
  obtain ⟨a3, e3, _⟩ := DataW.trod_int Try.underlying3 g3
  obtain ⟨a4, e4, _⟩ := DataW.trod_int Try.underlying3 g4
  refine ⟨⟨⟨a0, a1, hd, a3, a4⟩, h13⟩, ?_⟩
  simp only [encWo, encW, ← e2]
  rw [show ([Value.int .i64 a0, .int .i64 a1] : List Value) = [.int .i64 a0] ++ [.int .i64 a1] from rfl, show ([Value.int .i64 a3, .int .i64 a4] : List Value) = [.int .i64 a3] ++ [.int .i64 a4] from rfl, ← e0, ← e1, ← e3, ← e4]
  match cs, hl with
  | [x0, x1, x2, x3, x4, x5, x6, x7, x8, x9, x10, x11, x12, x13, x14, x15, x16], _ => rfl
theorem wact_slice {H : Type} {enc : TypeId × Value → H} {w : World} {r : Reach} {base : Nat} {v : Value} {d : DataW H} {ps : List MemPlace} (h : Value.okWide Try.prog w r base 45 v) (ht : DataW.Trod enc Try.prog w 0 (fun _ => true) true 45 v d ps) : ∃ l : List WActOk, ArgSl w 17 v (l.map encWo) := by
  obtain ⟨a, n, c, rfl⟩ := okWide_slice Try.underlying45 h
  exact arg_slice Try.underlying45 (by kernel_rfl) (by omega) wact_trod ht
theorem once_ok (room tries time : Int) (v : Value) (l : List WActOk) (w : World) (hl : ArgSl w 17 v (l.map encWo)) : Calls Try.prog 9 #[.int .i64 room, .int .i64 tries, .int .i64 time, v] w fun e w' => e = .returned (.bool true) ∧ Keep w w' := by
  have e : (l.map (fun a : WActOk => a.1)).map encW = l.map encWo := by rw [List.map_map]; rfl
  refine once_any room tries time v (l.map fun a : WActOk => a.1) w (fun a ha => ?_) (by rw [e]; exact hl)
  obtain ⟨b, _, rfl⟩ := List.mem_map.1 ha
  exact b.2
end Go.Proofs.Ytofajgipnnndgaa
