/-
  What a text comes to: the lexer as a function.
-/
import Derived.Test.YtofajgipnnndgaaLex1
set_option linter.unusedSimpArgs false
set_option linter.unusedVariables false
namespace Go.Proofs.Ytofajgipnnndgaa
open Go Go.Sx

structure Tok where
  kind : Nat
  pos : Nat
  text : ByteArray
  n : Nat
def Tok.cells (t : Tok) : List Value := [.int .i64 t.kind, .int .i64 t.pos, .string t.text, .int .i64 t.n]
def tokRows (l : List Tok) : List Value := (l.map Tok.cells).flatten
theorem tokRows_append (a b : List Tok) : tokRows (a ++ b) = tokRows a ++ tokRows b := by simp [tokRows]
theorem tokRows_one (a : Tok) : tokRows [a] = a.cells := by simp [tokRows]
theorem tokRows_len : ∀ l : List Tok, (tokRows l).length = l.length * 4
  | [] => rfl
  | a :: l => by
    have := tokRows_len l
    simp only [tokRows, List.map_cons, List.flatten_cons, List.length_append, List.length_cons] at this ⊢
    simp only [Tok.cells, List.length_cons, List.length_nil, this]
    omega

inductive LStep where
  | skip (a : Nat) | tok (t : Tok) (a : Nat) | err (e : Nat)
inductive LRes where
  | ok (l : List Tok) | err (e a : Nat)

def noLine (c : Nat) : Bool := c != 10
def noText : ByteArray := ⟨#[]⟩
def lexStep (s : ByteArray) (a : Nat) : LStep :=
  if byteAt s a = 32 ∨ byteAt s a = 9 ∨ byteAt s a = 13 then .skip (a + 1)
  else if byteAt s a = 35 then .skip (a + run s noLine a)
  else if 97 ≤ byteAt s a ∧ byteAt s a ≤ 122 then .tok ⟨1, a, s.extract a (a + run s (inR 97 122) a), 0⟩ (a + run s (inR 97 122) a)
  else if 48 ≤ byteAt s a ∧ byteAt s a ≤ 57 then
    match numF (s.extract a (a + run s (inR 48 57) a)) with
    | none => .err 7
    | some v => .tok ⟨2, a, noText, v⟩ (a + run s (inR 48 57) a)
  else if byteAt s a = 46 then .tok ⟨3, a, noText, 0⟩ (a + 1)
  else if byteAt s a = 47 then .tok ⟨4, a, noText, 0⟩ (a + 1)
  else if byteAt s a = 45 then (if a + 1 < s.size ∧ byteAt s (a + 1) = 62 then .tok ⟨6, a, noText, 0⟩ (a + 2) else .tok ⟨5, a, noText, 0⟩ (a + 1))
  else if byteAt s a = 10 then .tok ⟨7, a, noText, 0⟩ (a + 1)
  else .err 6

def lexGo (s : ByteArray) : Nat → Nat → List Tok → LRes
  | 0, _, acc => .ok acc
  | f + 1, a, acc => if a < s.size then match lexStep s a with
    | .skip b => lexGo s f b acc
    | .tok t b => lexGo s f b (acc ++ [t])
    | .err e => .err e a
    else .ok acc
def lexAll (s : ByteArray) : LRes := lexGo s s.size 0 []

theorem step_skip {s : ByteArray} {a b : Nat} (ha : a < s.size) (h : lexStep s a = .skip b) : a < b ∧ b ≤ s.size := by
  unfold lexStep at h
  split at h
  · cases h; omega
  split at h
  · rename_i h1 h2
    cases h
    have h3 := run_yes (p := noLine) ha (by simp [noLine]; omega)
    have h4 := run_le s noLine a
    omega
  repeat' (split at h)
  all_goals cases h

theorem step_tok {s : ByteArray} {a b : Nat} {t : Tok} (ha : a < s.size) (h : lexStep s a = .tok t b) : a < b ∧ b ≤ s.size ∧ t.pos = a := by
  unfold lexStep at h
  split at h
  · cases h
  split at h
  · cases h
  split at h
  · rename_i h1 h2 h3
    cases h
    have h3 := run_yes (p := inR 97 122) ha (by simp [inR]; omega)
    have h4 := run_le s (inR 97 122) a
    exact ⟨by omega, by omega, rfl⟩
  split at h
  · rename_i h1 h2 h3 h4
    have h5 := run_yes (p := inR 48 57) ha (by simp [inR]; omega)
    have h6 := run_le s (inR 48 57) a
    split at h
    · cases h
    · cases h; exact ⟨by omega, by omega, rfl⟩
  split at h
  · cases h; exact ⟨by omega, by omega, rfl⟩
  split at h
  · cases h; exact ⟨by omega, by omega, rfl⟩
  split at h
  · split at h
    · rename_i h9; cases h; exact ⟨by omega, by omega, rfl⟩
    · cases h; exact ⟨by omega, by omega, rfl⟩
  split at h
  · cases h; exact ⟨by omega, by omega, rfl⟩
  · cases h

theorem lexGo_fuel {s : ByteArray} : ∀ (f g a : Nat) (acc : List Tok), s.size - a ≤ f → s.size - a ≤ g → lexGo s f a acc = lexGo s g a acc := by
  intro f
  induction f with
  | zero =>
    intro g a acc h1 h2
    cases g with
    | zero => rfl
    | succ g => rw [lexGo, lexGo, if_neg (by omega)]
  | succ f ih =>
    intro g a acc h1 h2
    by_cases ha : a < s.size
    · cases g with
      | zero => omega
      | succ g =>
        rw [lexGo, lexGo, if_pos ha, if_pos ha]
        cases hs : lexStep s a with
        | skip b => have := step_skip ha hs; exact ih g b acc (by omega) (by omega)
        | tok t b => have := step_tok ha hs; exact ih g b _ (by omega) (by omega)
        | err e => rfl
    · cases g with
      | zero => rw [lexGo, lexGo, if_neg ha]
      | succ g => rw [lexGo, lexGo, if_neg ha, if_neg ha]

/-- The state of a lexer: what is to come is what comes of the whole. -/
def LexAt (s : ByteArray) (a : Nat) (acc : List Tok) : Prop := a ≤ s.size ∧ acc.length ≤ a ∧ lexAll s = lexGo s (s.size - a) a acc
theorem lexAt0 (s : ByteArray) : LexAt s 0 [] := ⟨Nat.zero_le _, Nat.zero_le _, rfl⟩
theorem LexAt.step {s : ByteArray} {a : Nat} {acc : List Tok} (h : LexAt s a acc) (ha : a < s.size) : lexAll s = match lexStep s a with
    | .skip b => lexGo s (s.size - b) b acc
    | .tok t b => lexGo s (s.size - b) b (acc ++ [t])
    | .err e => .err e a := by
  obtain ⟨h1, h2, h3⟩ := h
  rw [h3, show s.size - a = (s.size - (a + 1)) + 1 by omega, lexGo, if_pos ha]
  cases hs : lexStep s a with
  | skip b => have := step_skip ha hs; exact lexGo_fuel _ _ _ _ (by omega) (by omega)
  | tok t b => have := step_tok ha hs; exact lexGo_fuel _ _ _ _ (by omega) (by omega)
  | err e => rfl
theorem LexAt.skip {s : ByteArray} {a b : Nat} {acc : List Tok} (h : LexAt s a acc) (ha : a < s.size) (hs : lexStep s a = .skip b) : LexAt s b acc := by
  have := h.step ha
  rw [hs] at this
  have hb := step_skip ha hs
  exact ⟨hb.2, by have := h.2.1; omega, this⟩
theorem LexAt.tok {s : ByteArray} {a b : Nat} {t : Tok} {acc : List Tok} (h : LexAt s a acc) (ha : a < s.size) (hs : lexStep s a = .tok t b) : LexAt s b (acc ++ [t]) := by
  have := h.step ha
  rw [hs] at this
  have hb := step_tok ha hs
  exact ⟨hb.2.1, by have := h.2.1; simp; omega, this⟩
theorem LexAt.err {s : ByteArray} {a e : Nat} {acc : List Tok} (h : LexAt s a acc) (ha : a < s.size) (hs : lexStep s a = .err e) : lexAll s = .err e a := by
  have := h.step ha
  rw [hs] at this
  exact this
theorem LexAt.done {s : ByteArray} {a : Nat} {acc : List Tok} (h : LexAt s a acc) (ha : ¬ a < s.size) : lexAll s = .ok acc := by
  rw [h.2.2, show s.size - a = 0 by have := h.1; omega, lexGo]
end Go.Proofs.Ytofajgipnnndgaa
