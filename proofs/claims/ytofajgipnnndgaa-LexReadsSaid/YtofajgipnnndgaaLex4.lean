/-
  LexPlaces in plain terms: tokens rise by their places, and each word stands where it is told to.
-/
import Derived.Test.YtofajgipnnndgaaLex2
set_option linter.unusedSimpArgs false
set_option linter.unusedVariables false
namespace Go.Proofs.Ytofajgipnnndgaa
open Go Go.Sx

structure TokGood (s : ByteArray) (t : Tok) : Prop where
  lt : t.pos < s.size
  kind : t.kind ≤ 7
  word : t.kind = 1 → t.pos + t.text.size ≤ s.size ∧ s.extract t.pos (t.pos + t.text.size) = t.text
  num : t.n < 4294967296

theorem numF_lt {s : ByteArray} {v : Nat} (h : numF s = some v) : v < 4294967296 := by
  unfold numF at h
  split at h
  · cases h
  · split at h
    · cases h; assumption
    · cases h

theorem step_good {s : ByteArray} {a b : Nat} {t : Tok} (ha : a < s.size) (h : lexStep s a = .tok t b) : TokGood s t := by
  unfold lexStep at h
  split at h
  · cases h
  split at h
  · cases h
  split at h
  · rename_i h1 h2 h3
    cases h
    have h4 := run_le s (inR 97 122) a
    have h5 : (s.extract a (a + run s (inR 97 122) a)).size = run s (inR 97 122) a := by
      simp [ByteArray.size_extract]; omega
    refine ⟨ha, by show 1 ≤ 7; omega, fun _ => ?_, by show 0 < _; omega⟩
    dsimp only
    rw [h5]
    exact ⟨by omega, rfl⟩
  split at h
  · split at h
    · cases h
    · rename_i v hv
      cases h
      exact ⟨ha, by show 2 ≤ 7; omega, fun h => absurd h (by show ¬ 2 = 1; omega), numF_lt hv⟩
  split at h
  · cases h; exact ⟨ha, by show 3 ≤ 7; omega, fun h => absurd h (by show ¬ 3 = 1; omega), by show 0 < _; omega⟩
  split at h
  · cases h; exact ⟨ha, by show 4 ≤ 7; omega, fun h => absurd h (by show ¬ 4 = 1; omega), by show 0 < _; omega⟩
  split at h
  · split at h
    · cases h; exact ⟨ha, by show 6 ≤ 7; omega, fun h => absurd h (by show ¬ 6 = 1; omega), by show 0 < _; omega⟩
    · cases h; exact ⟨ha, by show 5 ≤ 7; omega, fun h => absurd h (by show ¬ 5 = 1; omega), by show 0 < _; omega⟩
  split at h
  · cases h; exact ⟨ha, by show 7 ≤ 7; omega, fun h => absurd h (by show ¬ 7 = 1; omega), by show 0 < _; omega⟩
  · cases h

theorem lexGo_good {s : ByteArray} : ∀ (f a : Nat) (acc l : List Tok), (∀ t ∈ acc, TokGood s t ∧ t.pos < a) → acc.Pairwise (fun x y => x.pos < y.pos) → lexGo s f a acc = .ok l → (∀ t ∈ l, TokGood s t) ∧ l.Pairwise (fun x y => x.pos < y.pos) := by
  intro f
  induction f with
  | zero => intro a acc l h1 h2 h; cases h; exact ⟨fun t ht => (h1 t ht).1, h2⟩
  | succ f ih =>
    intro a acc l h1 h2 h
    rw [lexGo] at h
    split at h
    · rename_i ha
      cases hs : lexStep s a with
      | skip b =>
        rw [hs] at h
        have hb := step_skip ha hs
        exact ih b acc l (fun t ht => ⟨(h1 t ht).1, by have := (h1 t ht).2; omega⟩) h2 h
      | tok t b =>
        rw [hs] at h
        have hb := step_tok ha hs
        refine ih b _ l (fun u hu => ?_) ?_ h
        · rcases List.mem_append.1 hu with hu | hu
          · exact ⟨(h1 u hu).1, by have := (h1 u hu).2; omega⟩
          · simp at hu; subst hu; exact ⟨step_good ha hs, by omega⟩
        · rw [List.pairwise_append]
          refine ⟨h2, by simp, fun x hx y hy => ?_⟩
          simp at hy; subst hy
          have := (h1 x hx).2
          omega
      | err e => rw [hs] at h; cases h
    · cases h; exact ⟨fun t ht => (h1 t ht).1, h2⟩

theorem lexAll_good {s : ByteArray} {l : List Tok} (h : lexAll s = .ok l) : (∀ t ∈ l, TokGood s t) ∧ l.Pairwise (fun x y => x.pos < y.pos) :=
  lexGo_good _ _ _ _ (by simp) List.Pairwise.nil h
end Go.Proofs.Ytofajgipnnndgaa
