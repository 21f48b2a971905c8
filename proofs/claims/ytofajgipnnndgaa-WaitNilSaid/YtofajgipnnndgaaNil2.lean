/-
  WaitNil, the law of package milepostlaw19, returns true at every input and leaves the input as it was; there is no condition (the shell began as proof-skeleton.mjs writes it).
-/
import Derived.Test.YtofajgipnnndgaaNil1
import Derived.Test.YtofajgipnnndgaaShut
set_option linter.unusedVariables false
namespace Go.Proofs.Ytofajgipnnndgaa
open Go Go.Sx Go.ChangeShapes Go.WideShapes Go.ChangeAt Go.RowKit

theorem ints_of (k : IntKind) : ∀ l : List Value, (∀ v ∈ l, ∃ n, v = .int k n) → ∃ hd : List Int, l = hd.map (Value.int k)
  | [], _ => ⟨[], rfl⟩
  | v :: l, h => by
    obtain ⟨n, rfl⟩ := h v List.mem_cons_self
    obtain ⟨hd, rfl⟩ := ints_of k l (fun u hu => h u (List.mem_cons_of_mem _ hu))
    exact ⟨n :: hd, rfl⟩

theorem cells50 : Try.prog.cellsOf 50 = 17 := by kernel_rfl
theorem types50 : Try.prog.cellTypes Try.prog.depth 50 = some [3, 3, 5, 5, 5, 5, 5, 5, 5, 5, 5, 5, 5, 5, 5, 3, 3] := by kernel_rfl

theorem act_of {w : World} {base : Nat} {v : Value} (h : Value.okWide Try.prog w .any base 50 v) : ∃ A k idx seq now hd, v = .agg A ∧ ActAt A k idx seq now hd := by
  simp only [Value.okWide, Try.underlying50] at h
  obtain ⟨A, rfl, hsz, ts, hts, _, hr⟩ := h
  rw [cells50] at hsz
  rw [types50] at hts
  cases hts
  have hi : ∀ i, (hi : i < 17) → A[i]? = some (A[i]'(by omega)) := fun i hi => Array.getElem?_eq_getElem (by omega)
  have hc : ∀ i t k, i < 17 → [3, 3, 5, 5, 5, 5, 5, 5, 5, 5, 5, 5, 5, 5, 5, 3, 3][i % 17]? = some t → Try.prog.underlying t = some (.int k) → ∃ n, A[i]? = some (.int k n) := by
    intro i t k h1 h2 h3
    obtain ⟨u, hu, ho⟩ := hr i _ (hi i h1)
    have hu' : some t = some u := h2.symm.trans hu
    cases hu'
    obtain ⟨n, hn, _⟩ := cell_int h3 ho
    exact ⟨n, by rw [hi i h1, hn]⟩
  obtain ⟨k, hk⟩ := hc 0 3 .i64 (by omega) rfl Try.underlying3
  obtain ⟨idx, hidx⟩ := hc 1 3 .i64 (by omega) rfl Try.underlying3
  obtain ⟨seq, hseq⟩ := hc 15 3 .i64 (by omega) rfl Try.underlying3
  obtain ⟨now, hnow⟩ := hc 16 3 .i64 (by omega) rfl Try.underlying3
  have h5 : ∀ i, i < 13 → [3, 3, 5, 5, 5, 5, 5, 5, 5, 5, 5, 5, 5, 5, 5, 3, 3][(2 + i) % 17]? = some 5 := by decide
  obtain ⟨hd, hhd⟩ := ints_of .u8 ((A.toList.drop 2).take 13) (by
    intro v hv
    obtain ⟨i, hi'⟩ := List.mem_iff_getElem?.1 hv
    by_cases h13 : i < 13
    · rw [List.getElem?_take_of_lt h13, List.getElem?_drop] at hi'
      obtain ⟨n, hn⟩ := hc (2 + i) 5 .u8 (by omega) (h5 i h13) Try.underlying5
      refine ⟨n, ?_⟩
      have : A.toList[2 + i]? = some (.int .u8 n) := by simpa using hn
      rw [this] at hi'
      cases hi'; rfl
    · rw [List.getElem?_take] at hi'
      simp [h13] at hi')
  refine ⟨A, k, idx, seq, now, hd, rfl, hsz, hk, hidx, hhd, hseq, hnow, ?_⟩
  have := congrArg List.length hhd
  simp [hsz] at this
  omega
end Go.Proofs.Ytofajgipnnndgaa

namespace Go.Proofs.Ytofajgipnnndgaa.waitNil
open Go Go.Sx Go.ChangeShapes Go.WideShapes Go.ChangeAt Go.RowKit

theorem laid : laidOutB Try.prog = true := by kernel_rfl

set_option maxRecDepth 100000 in
theorem lifted (os : Os) (started : os.Started) (H : Type) (enc : TypeId × Value → H) :
    ReturnsInHanded {} Try.checked os 10 .any (Rows.waitNilSpec.pre6 enc Try.prog Try.f10 Rows.waitNilRow.domain false) (Rows.waitNilSpec.post enc Try.prog Try.f10 false true false false) := by
  refine returnsInHanded_of_change (C := Try.checked) own started (by kernel_rfl) Try.func10
    (ChangeSpec.witness6 (enc := enc) (C := Try.checked) false ⟨#[], #[.agg #[.int .i64 0, .int .i64 0, .int .u8 0, .int .u8 0, .int .u8 0, .int .u8 0, .int .u8 0, .int .u8 0, .int .u8 0, .int .u8 0, .int .u8 0, .int .u8 0, .int .u8 0, .int .u8 0, .int .u8 0, .int .i64 0, .int .i64 0]], []⟩ 8 (by kernel_rfl) (by kernel_rfl) (by kernel_rfl) (by kernel_rfl)) ?_
  intro W base args ds gs before hval0 hW hcnd _
  have hval : ∀ (j : Nat) t v, Try.f10.params[j]? = some t → args[j]? = some v → Value.okWide Try.prog W .any base t v := hval0
  have hW' := hW
  obtain ⟨p, q, hA0, hV, rfl, hfz, hnd⟩ := hW
  have hA : DataW.TrodAll enc Try.prog W 0 (fun _ => true) true Try.f10.params.toList args.toList ds p := hA0
  have hlt : ∀ x ∈ p, x.block < W.heap.size := fun x hx => by simpa using hW'.lt x (List.mem_append_left _ hx)
  have hA' := hA
  rw [Try.params10] at hA' hval
  obtain ⟨v0, vs0, d0, ds0, p0, q0, hargs, rfl, rfl, h0, r0⟩ := trodAll_cons hA'
  obtain ⟨rfl, rfl, rfl⟩ := trodAll_nil r0
  obtain rfl : args = #[v0] := by cases args; simp_all
  obtain ⟨rfl, rfl⟩ := trodVars_none hV
  obtain ⟨A, k, idx, seq, now, hd, rfl, hact⟩ := act_of (hval 0 50 v0 rfl rfl)
  refine (nil_any A k idx seq now hd hact W).mono fun e W' ⟨he, hg⟩ => ?_
  subst he
  exact ⟨_, rfl, post_of_keep (pa := p0 ++ []) (pv := []) hW' (fun _ _ _ => (trodAll_cons_mk (shut_bool Try.underlying4 _) trodAll_mk0)) (fun sp hs => trodAll_keep laid hg sp (by kernel_rfl) hA hlt (fun x hx => hs x (List.mem_append_left _ hx))) (fun _ _ => rfl) rfl hg
    (ok_one (by kernel_rfl) rfl (okWide_bool_mk Try.underlying4 _))⟩

theorem over : Rows.waitNilRow.holds Try.pinned (OpenSpec.ofChange Rows.waitNilSpec) :=
  OpenClaim.holds_of_wide 10 Try.f10 rfl rfl rfl rfl rfl rfl rfl ⟨rfl, rfl, rfl, rfl, rfl⟩ rfl rfl rfl rfl rfl (by kernel_rfl) Try.func10 (by kernel_rfl)
    (of_decide_eq_true (by kernel_rfl)) (by unfold Func.isWrapper; first | (rw [if_pos (by decide +kernel)]; kernel_rfl) | (rw [if_neg (by decide +kernel)]; exact ⟨rfl, rfl⟩))
    (fun os started H enc _ => lifted os started H enc)

theorem proved : Rows.WaitNilSaid :=
  over
#print axioms proved
end Go.Proofs.Ytofajgipnnndgaa.waitNil
