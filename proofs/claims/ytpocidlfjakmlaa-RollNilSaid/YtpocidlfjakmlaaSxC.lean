/-
  SxC: each quiet operation yields what Q.val says.
-/
import Derived.Test.YtpocidlfjakmlaaSxB
namespace Go.Sx
open Go

def segCells {α : Type} (ρ : α → Value) : List (List Value × Option (Nat × α)) → List Value
  | [] => []
  | (z, none) :: r => z ++ segCells ρ r
  | (z, some (_, x)) :: r => z ++ (ρ x).cells.toList ++ segCells ρ r
def segOk {α : Type} (ρ : α → Value) : List (List Value × Option (Nat × α)) → Prop
  | [] => True
  | (_, none) :: r => segOk ρ r
  | (_, some (n, x)) :: r => (ρ x).cells.size = n ∧ segOk ρ r

def Q.val {α : Type} (w : World) (ρ : α → Value) : Q α → Value
  | .q0 x => ρ x
  | .q1 u x => u.val w (ρ x)
  | .q2 u x y => u.val (ρ x) (ρ y)
  | .q3 u x y z => u.val (ρ x) (ρ y) (ρ z)
  | .qlo u l x lo hi => u.val (ρ x) (match lo with | some y => ρ y | none => .int .i64 0) (match hi with | some y => ρ y | none => l.val w (ρ x))
  | .ite c a b => if vBool (ρ c) then ρ a else ρ b
  | .qn s => .agg (segCells ρ s).toArray
def Q.ok {α : Type} (w : World) (ρ : α → Value) : Q α → Prop
  | .q0 _ => True
  | .q1 u x => u.ok w (ρ x)
  | .q2 u x y => u.ok (ρ x) (ρ y)
  | .q3 u x y z => u.ok (ρ x) (ρ y) (ρ z)
  | .qlo u l x lo hi => u.ok (ρ x) (match lo with | some y => ρ y | none => .int .i64 0) (match hi with | some y => ρ y | none => l.val w (ρ x))
  | .ite c _ _ => isBool (ρ c) = true
  | .qn s => segOk ρ s
def Q.isLoad {α : Type} : Q α → Bool
  | .q1 u _ => u.isLoad
  | _ => false

theorem Keep.cell {w w' : World} (h : Keep w w') {a : Addr} {v : Value} (hc : w.cell? a = some v) : w'.cell? a = some v := by
  have hb := World.block_lt_of_cell? w a hc
  rw [← hc]; simp only [World.cell?, h.block _ hb]
theorem Addr.add_add' (a : Addr) (i j : Nat) : (a.add i).add j = a.add (i + j) := by
  unfold Addr.add; split <;> split <;> (try split) <;> simp_all <;> omega
theorem Addr.add_zero' (a : Addr) : a.add 0 = a := rfl

theorem run_loadCells_rd {P : Program} {w : World} (a : Addr) : ∀ (n : Nat) (i : Nat) (acc : Array Value) (l : List Value), rd w (a.add i) n = some l → (loadCellsFrom a i n acc).run P w = .ok (acc ++ l.toArray) w
  | 0, i, acc, l, h => by simp [rd] at h; subst h; simp [loadCellsFrom]
  | n + 1, i, acc, l, h => by
    simp only [rd] at h
    split at h
    · rename_i v l' hv hl
      cases h
      rw [Addr.add_add'] at hl
      have ih := run_loadCells_rd (P := P) a n (i + 1) (acc.push v) l' hl
      simp only [loadCellsFrom, Sem.run_bind, run_load, hv, Result.andThen_ok, ih]
      rw [← Array.toArray_toList (xs := acc)]; simp
    · cases h

theorem Keep.rd {w w' : World} (h : Keep w w') : ∀ (n : Nat) (a : Addr) (l : List Value), rd w a n = some l → Sx.rd w' a n = some l
  | 0, _, _, e => by simpa [Sx.rd] using e
  | n + 1, a, l, e => by
    simp only [Sx.rd] at e ⊢
    split at e
    · rename_i v l' hv hl
      rw [h.cell hv, Keep.rd h n _ _ hl]; exact e
    · cases e

theorem foldl_put (n : Nat) : ∀ (vs : List Value) (k off : Nat) (cs : List Value), vs.length = n → off + k + n ≤ cs.length →
    (vs.zipIdx k).foldl (fun (c : Array Value) (x : Value × Nat) => c.setIfInBounds (off + x.2) x.1) cs.toArray = (cs.take (off + k) ++ vs ++ cs.drop (off + k + n)).toArray := by
  induction n with
  | zero => intro vs k off cs h _; obtain rfl := List.eq_nil_of_length_eq_zero h; simp
  | succ n ih =>
    intro vs k off cs h hb
    cases vs with
    | nil => simp at h
    | cons v vs =>
      simp only [List.zipIdx_cons, List.foldl_cons]
      have := ih vs (k + 1) off (cs.set (off + k) v) (by simpa using h) (by simp; omega)
      simp only [List.setIfInBounds_toArray]
      rw [this]
      congr 1
      rw [show off + (k + 1) = off + k + 1 from by omega, show off + k + 1 + n = off + k + (n + 1) from by omega]
      rw [List.take_set, List.drop_set_of_lt (by omega)]
      have hlt : off + k < cs.length := by omega
      rw [List.take_succ_eq_append_getElem hlt, List.set_append_right (off + k) v (by simp; omega)]
      simp [Nat.min_eq_left (Nat.le_of_lt hlt)]

theorem run_fill (ρ : Operand → Value) (zero : List Value) (place : Nat → Option (Nat × Nat)) : ∀ (parts : List (Nat × Operand)) (pos : Nat) (ps : List (Nat × Nat × Operand)) (sg : List (List Value × Option (Nat × Operand))) (pre : List Value),
    pre.length = pos → pos ≤ zero.length → parts.mapM (fun (p : Nat × Operand) => (place p.1).map fun (on : Nat × Nat) => (on.1, on.2, p.2)) = some ps → segs zero pos ps = some sg → segOk ρ sg →
    Instr.fill place (pre ++ zero.drop pos).toArray (parts.map fun (p : Nat × Operand) => (p.1, ρ p.2)) = some (pre ++ segCells ρ sg).toArray
  | [], pos, ps, sg, pre, hp, hl, hm, hs, _ => by
    simp at hm; subst hm
    simp [segs] at hs; subst hs
    simp [Instr.fill, segCells]
  | (i, x) :: r, pos, ps, sg, pre, hp, hl, hm, hs, hok => by
    simp only [List.mapM_cons] at hm
    cases hpl : place i with
    | none => simp [hpl] at hm
    | some on =>
      obtain ⟨o, n⟩ := on
      simp only [hpl, Option.map_some, Option.pure_def, Option.bind_eq_bind, Option.bind_some] at hm
      cases hr : r.mapM (fun (p : Nat × Operand) => (place p.1).map fun (on : Nat × Nat) => (on.1, on.2, p.2)) with
      | none => simp [hr] at hm
      | some ps' =>
        simp [hr] at hm; subst hm
        simp only [segs] at hs
        split at hs
        · rename_i hb
          cases hsg : segs zero (o + n) ps' with
          | none => simp [hsg] at hs
          | some sg' =>
            simp [hsg] at hs; subst hs
            simp only [segOk] at hok
            have hcs : (ρ x).cells.size = n := hok.1
            have hlen : (pre ++ zero.drop pos).length = zero.length := by simp; omega
            simp only [List.map_cons, Instr.fill, hpl]
            rw [if_neg (by simp only [hcs, List.size_toArray, hlen]; simp; omega)]
            have hf := foldl_put n (ρ x).cells.toList 0 o (pre ++ zero.drop pos) (by simpa using hcs) (by rw [hlen]; omega)
            have hz : (ρ x).cells.zipIdx = ((ρ x).cells.toList.zipIdx 0).toArray := by
              generalize (ρ x).cells = cs
              obtain ⟨l⟩ := cs
              simp [Array.zipIdx_toArray]
            rw [hz]
            simp only [Nat.add_zero] at hf
            rw [List.foldl_toArray]
            rw [hf]
            have hkey : (pre ++ zero.drop pos).take o ++ (ρ x).cells.toList ++ (pre ++ zero.drop pos).drop (o + n) = (pre ++ ((zero.drop pos).take (o - pos)) ++ (ρ x).cells.toList) ++ zero.drop (o + n) := by
              rw [List.take_append, List.take_of_length_le (by omega : pre.length ≤ o), List.drop_append, List.drop_eq_nil_of_le (by omega : pre.length ≤ o + n), hp, List.drop_drop]
              simp [show pos + (o + n - pos) = o + n from by omega]
            rw [hkey]
            rw [run_fill ρ zero place r (o + n) ps' sg' _ (by simp only [List.length_append, List.length_take, List.length_drop, Array.length_toList, hp, hcs]; omega) (by omega) hr hsg hok.2]
            simp [segCells]
        · cases hs
end Go.Sx
