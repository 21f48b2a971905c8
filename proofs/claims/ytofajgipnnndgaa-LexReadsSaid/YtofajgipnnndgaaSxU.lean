/-
  SxU: other operations: makes, conversions.
-/
import Derived.Test.YtofajgipnnndgaaSxT
import Derived.Laws.BytesString
import Derived.Laws.MakeOwn
set_option linter.unusedSimpArgs false
set_option linter.unusedVariables false
namespace Go.Sx
open Go

theorem ran_make {P : Program} {t ty e : TypeId} {i : TypeInfo} {z : Value} {n : Nat} {ρ : Operand → Value} {d : Option Nat} {x y : Operand} {w : World} {K : Value → World → Prop} {k1 k2 : IntKind} (hx : ρ x = .int k1 n) (hy : ρ y = .int k2 n)
    (ht : P.underlying t = some (.slice e)) (hi : P.info? e = some i) (hz : i.zero = some z) (hzs : z.cells.size = i.size) (hpos : 0 < i.size) (hb : i.bytes * n ≤ 281474976710656) (hn : n ≤ maxLen)
    (hK : K (.slice (some ⟨w.heap.size, 0, none⟩) n n) (w.alloc (.cells ((List.replicate n z.cells.toList).flatten).toArray e))) :
    ranTo K ((execOp ρ { dst := d, op := .makeSlice t x y, type := ty, pos := "", after := #[], guard := none }).run P w) := by
  have h63 : (n : Int) ≤ 9223372036854775807 := by simp [maxLen] at hn; omega
  have hb' : (i.bytes : Int) * (n : Int) ≤ 281474976710656 := by
    have h : ((i.bytes * n : Nat) : Int) ≤ 281474976710656 := by omega
    rwa [Int.natCast_mul] at h
  have hr := run_make (P := P) w t e i z ht hi hz k1 k2 n n (by omega) (Int.le_refl _) hb' h63
  have hm : madeCells z.cells (n * i.size) = ((List.replicate n z.cells.toList).flatten).toArray := zeros_eq z.cells i.size n hzs hpos
  simp only [Int.toNat_natCast, hm] at hr
  simp [execOp, hx, hy, hr, ranTo, hK]

theorem ran_str {P : Program} {src dst ty e : TypeId} {ρ : Operand → Value} {d : Option Nat} {x : Operand} {w : World} {K : Value → World → Prop} {a : Addr} {n c : Nat} {ns : List Int} (hx : ρ x = .slice (some a) n c)
    (hs : P.underlying src = some (.slice e)) (he : P.underlying e = some (.int .u8)) (hd : P.underlying dst = some .string) (hr : rd w a n = some (ns.map (Value.int .u8)))
    (hK : K (.string (ns.foldl (fun r n => r.push (UInt8.ofNat n.toNat)) ByteArray.empty)) w) :
    ranTo K ((execOp ρ { dst := d, op := .convert src dst x, type := ty, pos := "", after := #[], guard := none }).run P w) := by
  have h4 := run_loadCells_rd (P := P) (w := w) a n 0 #[] _ (by rw [Addr.add_zero']; exact hr)
  have h5 := run_bytesToString (P := P) w a n c ns (by simp only [loadCells, h4]; simp)
  have h6 := run_convert_bytes_string (P := P) w src dst e (some a) n c hs he hd
  rw [h5] at h6
  simp [execOp, hx, h6, ranTo, hK]
theorem pushes_size (ns : List Int) : ∀ s : ByteArray, (ns.foldl (fun r n => r.push (UInt8.ofNat n.toNat)) s).size = s.size + ns.length := by
  induction ns with
  | nil => intro s; rfl
  | cons n ns ih =>
    intro s
    rw [List.foldl_cons, ih, ByteArray.size_push, List.length_cons]
    omega
end Go.Sx
