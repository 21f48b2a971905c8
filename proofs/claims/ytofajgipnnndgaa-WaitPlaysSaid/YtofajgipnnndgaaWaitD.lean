/-
  The example of chapter 19; what WaitOnce keeps.
-/
import Derived.Test.YtofajgipnnndgaaWaitC
set_option linter.unusedSimpArgs false
set_option linter.unusedVariables false
namespace Go.Proofs.Ytofajgipnnndgaa
open Go Go.Sx

def sqOf (n : Nat) : List Nat := (List.range n).map (· + 1)
theorem sqOf_len (n : Nat) : (sqOf n).length = n := by simp [sqOf]
theorem sqOf_succ (n : Nat) : sqOf (n + 1) = sqOf n ++ [n + 1] := by simp [sqOf, List.range_succ]
theorem place_in {n s : Nat} (h : 1 ≤ s ∧ s ≤ n) : placeF (sqOf n) s = ((s - 1 : Nat) : Int) := by
  have hi : (sqOf n).idxOf s = s - 1 := idx_of (by rw [sqOf_len]; omega) (by simp [sqOf]; omega) fun i hi hlt => by simp [sqOf]; omega
  unfold placeF
  rw [hi, sqOf_len, if_pos (by omega)]
theorem place_out {n : Nat} : placeF (sqOf n) (n + 1) = -1 := by
  have hn : ¬ (sqOf n).idxOf (n + 1) < (sqOf n).length := by
    intro hh
    have h1 := List.idxOf_lt_length_iff.1 hh
    simp [sqOf] at h1
  unfold placeF
  rw [if_neg hn]

/-- Who waits, or is done now, was added and is not done yet; each is another one. -/
structure OnceOk (x : WaitS) (st : List Nat) (D : List Asked) : Prop where
  ok : WaitOk x
  len : st.length = x.last
  seq : ∀ a ∈ x.list ++ D, 1 ≤ a.seq ∧ a.seq ≤ x.last
  one : ∀ a ∈ x.list ++ D, st.getD (a.seq - 1) 0 = 1
  apart : (x.list ++ D).Pairwise fun a b => a.seq ≠ b.seq
theorem OnceOk.head {x : WaitS} {st : List Nat} {a : Asked} {D : List Asked} (h : OnceOk x st (a :: D)) : OnceOk x (st.set (a.seq - 1) 2) D := by
  have hsub : ∀ b ∈ x.list ++ D, b ∈ x.list ++ a :: D := fun b hb => by
    rcases List.mem_append.1 hb with hb | hb
    · exact List.mem_append_left _ hb
    · exact List.mem_append_right _ (List.mem_cons_of_mem _ hb)
  have hap := List.pairwise_append.1 h.apart
  have hac := List.pairwise_cons.1 hap.2.1
  refine ⟨h.ok, by simp [h.len], fun b hb => h.seq b (hsub b hb), fun b hb => ?_, List.pairwise_append.2 ⟨hap.1, hac.2, fun b hb c hc => hap.2.2 b hb c (List.mem_cons_of_mem _ hc)⟩⟩
  have hne : b.seq ≠ a.seq := by
    rcases List.mem_append.1 hb with hb' | hb'
    · exact hap.2.2 b hb' a List.mem_cons_self
    · exact fun e => hac.1 b hb' e.symm
  have h1 := h.seq b (hsub b hb)
  have h2 := h.seq a (List.mem_append_right _ List.mem_cons_self)
  have h3 := h.one b (hsub b hb)
  rw [List.getD_eq_getElem?_getD] at h3 ⊢
  rw [List.getElem?_set_ne (by omega)]
  exact h3

theorem OnceOk.add {x : WaitS} {st : List Nat} (h : OnceOk x st []) (hr : x.list.length < x.room) {idx now : Int} {hd : List Int} (hh : HeadOk hd) : OnceOk (addW x idx now hd) (st ++ [1]) [] := by
  have h0 : ∀ a ∈ x.list, a ∈ x.list ++ ([] : List Asked) := fun a ha => by simpa using ha
  refine ⟨addW_ok h.ok hr hh, by simp [addW, h.len], ?_, ?_, ?_⟩
  · intro a ha
    simp only [addW, List.append_nil, List.mem_append, List.mem_singleton] at ha
    rcases ha with ha | rfl
    · have := h.seq a (h0 a ha); simp only [addW]; omega
    · simp only [addW]; omega
  · intro a ha
    simp only [addW, List.append_nil, List.mem_append, List.mem_singleton] at ha
    rw [List.getD_eq_getElem?_getD]
    rcases ha with ha | rfl
    · have h1 := h.seq a (h0 a ha)
      have h2 := h.one a (h0 a ha)
      rw [List.getD_eq_getElem?_getD] at h2
      rw [List.getElem?_append_left (by rw [h.len]; omega)]
      exact h2
    · simp only [Nat.add_sub_cancel]
      rw [List.getElem?_append_right (by rw [h.len]; omega), h.len]
      simp
  · have hp : x.list.Pairwise fun a b => a.seq ≠ b.seq := by simpa using h.apart
    simp only [addW, List.append_nil]
    refine List.pairwise_append.2 ⟨hp, by simp, fun a ha b hb => ?_⟩
    simp at hb; subst hb
    have := h.seq a (h0 a ha)
    simp only; omega

theorem OnceOk.drop {x : WaitS} {st : List Nat} (h : OnceOk x st []) {j : Nat} (hj : j < x.list.length) : OnceOk (dropW x j) st [x.list[j]] := by
  have h0 : ∀ a ∈ (dropW x j).list ++ [x.list[j]], a ∈ x.list ++ ([] : List Asked) := fun a ha => by
    simp only [List.append_nil, dropW, List.mem_append, List.mem_singleton] at ha ⊢
    rcases ha with ha | rfl
    · exact List.mem_of_mem_eraseIdx ha
    · exact List.getElem_mem _
  refine ⟨dropW_ok h.ok j, h.len, fun a ha => h.seq a (h0 a ha), fun a ha => h.one a (h0 a ha), ?_⟩
  have hp : x.list.Pairwise fun a b => a.seq ≠ b.seq := by simpa using h.apart
  refine List.pairwise_append.2 ⟨hp.sublist (List.eraseIdx_sublist _ _), by simp, fun a ha b hb => ?_⟩
  simp at hb; subst hb
  obtain ⟨i, hi, rfl⟩ := List.mem_iff_getElem.1 ha
  simp only [dropW] at hi ⊢
  rw [List.getElem_eraseIdx]
  split
  · rename_i hlt
    exact List.pairwise_iff_getElem.1 hp i j (by rw [List.length_eraseIdx] at hi; split at hi <;> omega) hj hlt
  · rename_i hlt
    have := List.pairwise_iff_getElem.1 hp j (i + 1) hj (by rw [List.length_eraseIdx, if_pos hj] at hi; omega) (by omega)
    exact fun e => this e.symm
theorem OnceOk.clear {x : WaitS} {st : List Nat} (h : OnceOk x st []) : OnceOk (clearW x) st x.list := by
  have h0 : ∀ a ∈ (clearW x).list ++ x.list, a ∈ x.list ++ ([] : List Asked) := fun a ha => by simpa [clearW] using ha
  exact ⟨clearW_ok h.ok, h.len, fun a ha => h.seq a (h0 a ha), fun a ha => h.one a (h0 a ha), by simpa [clearW] using h.apart⟩

theorem left_gone (T M : Nat) (c : Int) : ∀ l : List Asked, (∀ b ∈ leftF T M c l ++ goneF T c l, ∃ a ∈ l, b.seq = a.seq) ∧ (l.Pairwise (fun a b => a.seq ≠ b.seq) → (leftF T M c l ++ goneF T c l).Pairwise fun a b => a.seq ≠ b.seq)
  | [] => ⟨by simp [leftF, goneF], fun _ => by simp [leftF, goneF]⟩
  | a :: l => by
    obtain ⟨h1, h2⟩ := left_gone T M c l
    have e1 : leftF T M c (a :: l) = stepL T M c a ++ leftF T M c l := by simp [leftF]
    have e2 : goneF T c (a :: l) = stepG T c a ++ goneF T c l := by simp [goneF]
    refine ⟨?_, fun hp => ?_⟩
    · intro b hb
      rw [e1, e2] at hb
      simp only [List.mem_append] at hb
      rcases hb with (hb | hb) | hb | hb
      · exact ⟨a, List.mem_cons_self, (step_mem (.inl hb)).1⟩
      · obtain ⟨a', ha', e⟩ := h1 b (List.mem_append_left _ hb); exact ⟨a', List.mem_cons_of_mem _ ha', e⟩
      · exact ⟨a, List.mem_cons_self, (step_mem (T := T) (M := M) (c := c) (.inr (.inr hb))).1⟩
      · obtain ⟨a', ha', e⟩ := h1 b (List.mem_append_right _ hb); exact ⟨a', List.mem_cons_of_mem _ ha', e⟩
    · obtain ⟨hp1, hp2⟩ := List.pairwise_cons.1 hp
      have h3 := h2 hp2
      have hrest : ∀ b ∈ leftF T M c l ++ goneF T c l, b.seq ≠ a.seq := fun b hb => by
        obtain ⟨a', ha', e⟩ := h1 b hb
        rw [e]; exact fun e' => hp1 a' ha' e'.symm
      rw [e1, e2]
      obtain ⟨p1, p2, p3⟩ := List.pairwise_append.1 h3
      have key : (stepL T M c a = [] ∧ stepG T c a = []) ∨ (∃ b, stepL T M c a = [b] ∧ stepG T c a = [] ∧ b.seq = a.seq) ∨ (stepL T M c a = [] ∧ stepG T c a = [a]) := by
        simp only [stepL, stepG]
        split
        · exact .inr (.inl ⟨a, rfl, rfl, rfl⟩)
        · split
          · exact .inr (.inr ⟨rfl, rfl⟩)
          · exact .inr (.inl ⟨_, rfl, rfl, rfl⟩)
      rcases key with ⟨k1, k2⟩ | ⟨b, k1, k2, k3⟩ | ⟨k1, k2⟩
      · rw [k1, k2]; simpa using h3
      · rw [k1, k2]
        simp only [List.nil_append, List.cons_append, List.append_assoc]
        refine List.pairwise_cons.2 ⟨fun d hd => ?_, h3⟩
        rw [k3]; exact fun e => hrest d hd e.symm
      · rw [k1, k2]
        simp only [List.nil_append, List.cons_append]
        refine List.pairwise_append.2 ⟨p1, List.pairwise_cons.2 ⟨fun d hd e => hrest d (List.mem_append_right _ hd) e.symm, p2⟩, fun d hd f hf => ?_⟩
        rcases List.mem_cons.1 hf with rfl | hf
        · exact hrest d (List.mem_append_left _ hd)
        · exact p3 d hd f hf
theorem OnceOk.tick {x : WaitS} {st : List Nat} (h : OnceOk x st []) (now : Int) : OnceOk (tickW x now) st (goneF x.tries (clock now) x.list) := by
  have hp : x.list.Pairwise fun a b => a.seq ≠ b.seq := by simpa using h.apart
  obtain ⟨h1, h2⟩ := left_gone x.tries x.time (clock now) x.list
  refine ⟨tickW_ok h.ok now, h.len, fun b hb => ?_, fun b hb => ?_, h2 hp⟩
  · obtain ⟨a, ha, e⟩ := h1 b hb
    rw [e]; exact h.seq a (by simpa using ha)
  · obtain ⟨a, ha, e⟩ := h1 b hb
    rw [e]; exact h.one a (by simpa using ha)
theorem again_ok {x : WaitS} {st : List Nat} (h : OnceOk x st []) (now : Int) : ∀ b ∈ againF x.tries x.time (clock now) x.list, (1 ≤ b.seq ∧ b.seq ≤ x.last) ∧ st.getD (b.seq - 1) 0 = 1 ∧ b.sent ≤ x.tries + 1 := by
  intro b hb
  obtain ⟨a, ha, hb⟩ := List.mem_flatMap.1 hb
  have e := (step_mem (.inr (.inl hb))).1
  rw [e]
  refine ⟨h.seq a (by simpa using ha), h.one a (by simpa using ha), ?_⟩
  simp only [stepA] at hb
  (repeat' split at hb) <;> simp at hb <;> subst hb
  simp only; omega
end Go.Proofs.Ytofajgipnnndgaa
