/-
  Chapter 19: package wait and its reference go together.
-/
import Derived.Test.YtofajgipnnndgaaWaitJ
set_option linter.unusedSimpArgs false
set_option linter.unusedVariables false
namespace Go.Proofs.Ytofajgipnnndgaa
open Go Go.Sx

/-- What package wait holds beside the reference. -/
def absR (r : RefS) : WaitS := ⟨restF r.R, r.R.length, r.room, r.tries, r.time⟩
def SeqOk (R : List (Asked × Bool)) : Prop := ∀ (i : Nat) (h : i < R.length), (R[i]).1.seq = i + 1
theorem restF_app (A B : List (Asked × Bool)) : restF (A ++ B) = restF A ++ restF B := by simp [restF]
theorem restF_cons (q : Asked × Bool) (B : List (Asked × Bool)) : restF (q :: B) = restP q ++ restF B := by simp [restF]
theorem addW_abs (r : RefS) (idx now : Int) (hd : List Int) : addW (absR r) idx now hd = absR (addR r idx now hd) := by
  simp [addW, absR, addR, restF_app, restF_cons, restP, restF]
theorem seq_add {r : RefS} (h : SeqOk r.R) (idx now : Int) (hd : List Int) : SeqOk (addR r idx now hd).R := by
  intro i hi
  simp only [addR, List.length_append, List.length_cons, List.length_nil] at hi ⊢
  by_cases hlt : i < r.R.length
  · rw [List.getElem_append_left hlt]; exact h i hlt
  · have : i = r.R.length := by omega
    subst this
    simp
theorem clearW_abs (r : RefS) : clearW (absR r) = absR (clearR r) := by
  have h : ∀ R : List (Asked × Bool), restF (R.map fun q => (q.1, true)) = [] := fun R => by
    induction R with
    | nil => rfl
    | cons q R ih => rw [List.map_cons, restF_cons, ih]; rfl
  simp [clearW, absR, clearR, h]
theorem seq_clear {r : RefS} (h : SeqOk r.R) : SeqOk (clearR r).R := by
  intro i hi
  simp only [clearR, List.length_map] at hi ⊢
  rw [List.getElem_map]; exact h i hi
theorem clearR_ok {r : RefS} (hr : RefOk r) : RefOk (clearR r) := by
  refine ⟨hr.room, hr.tries, hr.time, by simp [clearR]; exact hr.len, ?_, ?_⟩ <;>
  · intro q hq
    obtain ⟨a, ha, rfl⟩ := List.mem_map.1 hq
    first | exact hr.sent a ha | exact hr.head a ha
theorem left_rest (T M : Nat) (c : Int) : ∀ R : List (Asked × Bool), leftF T M c (restF R) = restF (R.map (stepR T M c))
  | [] => rfl
  | q :: R => by
    have ih := left_rest T M c R
    rw [restF_cons, List.map_cons, restF_cons, ← ih]
    have e : ∀ a b : List Asked, leftF T M c (a ++ b) = leftF T M c a ++ leftF T M c b := fun a b => by simp [leftF]
    rw [e]
    congr 1
    obtain ⟨y, b⟩ := q
    cases b
    · simp only [restP, stepR, Bool.false_eq_true, if_false, false_or]
      by_cases h1 : y.due > c
      · simp [h1, leftF, stepL]
      · by_cases h2 : y.sent > T
        · simp [h1, h2, leftF, stepL]
        · simp [h1, h2, leftF, stepL]
    · simp [restP, stepR, leftF]
theorem tickW_abs (r : RefS) (now : Int) : tickW (absR r) now = absR (tickR r now) := by
  simp [tickW, absR, tickR, left_rest]
theorem seq_tick {r : RefS} (h : SeqOk r.R) (now : Int) : SeqOk (tickR r now).R := by
  intro i hi
  simp only [tickR, List.length_map] at hi ⊢
  rw [List.getElem_map, stepR_head.2]; exact h i hi
theorem doneR_ok {r : RefS} (hr : RefOk r) {k : Nat} (hk : k < r.R.length) {y : Asked} (hy : r.R[k] = (y, false)) : RefOk (doneR r k y) := by
  have hm : ∀ q ∈ r.R.set k (y, true), ∃ a ∈ r.R, a.1 = q.1 := fun q hq => by
    rcases List.mem_or_eq_of_mem_set hq with h | rfl
    · exact ⟨q, h, rfl⟩
    · exact ⟨_, List.getElem_mem hk, by rw [hy]⟩
  refine ⟨hr.room, hr.tries, hr.time, by simp [doneR]; exact hr.len, ?_, ?_⟩ <;>
  · intro q hq
    obtain ⟨a, ha, e⟩ := hm q hq
    rw [← e]
    first | exact hr.sent a ha | exact hr.head a ha
theorem seq_done {r : RefS} (h : SeqOk r.R) {k : Nat} (hk : k < r.R.length) {y : Asked} (hy : r.R[k] = (y, false)) : SeqOk (doneR r k y).R := by
  intro i hi
  simp only [doneR, List.length_set] at hi ⊢
  rw [List.getElem_set]
  split
  · rename_i e
    subst e
    have := h k hk
    rw [hy] at this
    exact this
  · exact h i hi
theorem hit_R {R : List (Asked × Bool)} (hs : SeqOk R) {s : Int} {j : Nat} (h : hitAt (restF R) s j) : ∃ k, ∃ hk : k < R.length, s = (k + 1 : Nat) ∧ R[k] = ((restF R)[j]'h.1, false) ∧ restF (R.set k ((restF R)[j]'h.1, true)) = (restF R).eraseIdx j := by
  obtain ⟨hj, he, hf⟩ := h
  obtain ⟨y, hy⟩ : ∃ y, (restF R)[j] = y := ⟨_, rfl⟩
  suffices hh : ∃ k, ∃ hk : k < R.length, s = (k + 1 : Nat) ∧ R[k] = (y, false) ∧ restF (R.set k (y, true)) = (restF R).eraseIdx j by
    rw [← hy] at hh
    exact hh
  obtain ⟨q, hq, hq1, hq2⟩ := restF_mem (List.getElem_mem hj)
  obtain ⟨k, hk, rfl⟩ := List.mem_iff_getElem.1 hq
  have hseq := hs k hk
  rw [hq1] at hseq
  rw [hy] at hq1 hseq he
  have hRk : R[k] = (y, false) := Prod.ext hq1 hq2
  have hsplit : R = R.take k ++ (y, false) :: R.drop (k + 1) := by
    rw [← hRk, ← List.drop_eq_getElem_cons hk, List.take_append_drop]
  have hset : R.set k (y, true) = R.take k ++ (y, true) :: R.drop (k + 1) := by
    rw [List.set_eq_take_append_cons_drop, if_pos hk]
  have hrest : restF R = restF (R.take k) ++ y :: restF (R.drop (k + 1)) := by
    conv => lhs; rw [hsplit, restF_app, restF_cons]
    rfl
  have hjm : j = (restF (R.take k)).length := by
    rcases Nat.lt_trichotomy j (restF (R.take k)).length with hlt | e | hgt
    · exfalso
      have hy2 : (restF (R.take k))[j] = y := by
        rw [← hy]
        have e : (restF R)[j]? = (restF (R.take k))[j]? := by rw [hrest, List.getElem?_append_left hlt]
        rw [List.getElem?_eq_getElem hj, List.getElem?_eq_getElem hlt] at e
        simpa using e.symm
      obtain ⟨q', hq', h1, _⟩ := restF_mem (List.getElem_mem hlt)
      obtain ⟨i, hi, rfl⟩ := List.mem_iff_getElem.1 hq'
      rw [List.getElem_take, hy2] at h1
      have h2 := hs i (by rw [List.length_take] at hi; omega)
      rw [h1] at h2
      rw [List.length_take] at hi
      omega
    · exact e
    · exfalso
      have hm : (restF (R.take k)).length < (restF R).length := by omega
      have hy2 : (restF R)[(restF (R.take k)).length] = y := by
        have e : (restF R)[(restF (R.take k)).length]? = some y := by rw [hrest, List.getElem?_append_right (Nat.le_refl _), Nat.sub_self]; rfl
        rw [List.getElem?_eq_getElem hm] at e
        simpa using e
      have := hf _ hgt
      rw [hy2] at this
      exact this he
  refine ⟨k, hk, by rw [← he, hseq], hRk, ?_⟩
  rw [hset, restF_app, restF_cons, hrest, hjm, List.eraseIdx_append_of_length_le (Nat.le_refl _), Nat.sub_self]
  rfl
theorem dropW_abs {r : RefS} {j k : Nat} {y : Asked} (h : restF (r.R.set k (y, true)) = (restF r.R).eraseIdx j) : dropW (absR r) j = absR (doneR r k y) := by
  simp [dropW, absR, doneR, h]
theorem miss_R {R : List (Asked × Bool)} (hs : SeqOk R) {s : Int} (h : ∀ a ∈ restF R, ((a.seq : Nat) : Int) ≠ s) : s < 1 ∨ (R.length : Int) < s ∨ ∃ k, ∃ h : k < R.length, s = (k + 1 : Nat) ∧ (R[k]).2 = true := by
  by_cases h1 : s < 1
  · exact .inl h1
  by_cases h2 : (R.length : Int) < s
  · exact .inr (.inl h2)
  obtain ⟨k, rfl⟩ : ∃ k : Nat, s = (k + 1 : Nat) := ⟨(s - 1).toNat, by omega⟩
  have hk : k < R.length := by omega
  refine .inr (.inr ⟨k, hk, rfl, ?_⟩)
  rcases hq : R[k] with ⟨y, b⟩
  cases b
  · exfalso
    have hm : y ∈ restF R := List.mem_flatMap.2 ⟨R[k], List.getElem_mem hk, by rw [hq]; simp [restP]⟩
    have h3 := h y hm
    have h4 := hs k hk
    rw [hq] at h4
    have h4 : y.seq = k + 1 := h4
    exact h3 (by rw [h4])
  · rfl
end Go.Proofs.Ytofajgipnnndgaa
