/-
  SxU: other operations: makes, conversions.
-/
import Derived.Test.YtpocidlfjakmlaaSxT
import Derived.Laws.BytesString
import Derived.Laws.MakeOwn
set_option linter.unusedSimpArgs false
set_option linter.unusedVariables false
namespace Go.Sx
open Go

theorem ran_make {P : Program} {t ty e : TypeId} {i : TypeInfo} {z : Value} {n : Nat} {ρ : Operand → Value} {d : Option Nat} {x y : Operand} {w : World} {K : Value → World → Prop} {k1 k2 : IntKind} (hx : ρ x = .int k1 n) (hy : ρ y = .int k2 n)
    (ht : P.underlying t = some (.slice e)) (hi : P.info? e = some i) (hz : i.zero = some z) (hzs : z.cells.size = i.size) (hpos : 0 < i.size) (hb : i.bytes * n ≤ 281474976710656) (hn : n ≤ maxLen)
    (hK : K (.slice (some ⟨w.heap.size, 0, none⟩) n n) (w.alloc (.cells ((List.replicate n z.cells.toList).flatten).toArray e))) :
    ranTo K ((execOp ρ { dst := d, op := .makeSlice t x y, type := ty, pos := "", after := #[], guard := none }).run P w) := by
  have h63 : (n : Int) ≤ 9223372036854775807 := by simp [maxLen] at hn; omega
  have hb' : (i.bytes : Int) * (n : Int) ≤ 281474976710656 := by
    have h : ((i.bytes * n : Nat) : Int) ≤ 281474976710656 := by omega
    rwa [Int.natCast_mul] at h
  have hr := run_make (P := P) w t e i z ht hi hz k1 k2 n n (by omega) (Int.le_refl _) hb' h63
  have hm : madeCells z.cells (n * i.size) = ((List.replicate n z.cells.toList).flatten).toArray := zeros_eq z.cells i.size n hzs hpos
  simp only [Int.toNat_natCast, hm] at hr
  simp [execOp, hx, hy, hr, ranTo, hK]

theorem ran_str {P : Program} {src dst ty e : TypeId} {ρ : Operand → Value} {d : Option Nat} {x : Operand} {w : World} {K : Value → World → Prop} {a : Addr} {n c : Nat} {ns : List Int} (hx : ρ x = .slice (some a) n c)
    (hs : P.underlying src = some (.slice e)) (he : P.underlying e = some (.int .u8)) (hd : P.underlying dst = some .string) (hr : rd w a n = some (ns.map (Value.int .u8)))
    (hK : K (.string (ns.foldl (fun r n => r.push (UInt8.ofNat n.toNat)) ByteArray.empty)) w) :
    ranTo K ((execOp ρ { dst := d, op := .convert src dst x, type := ty, pos := "", after := #[], guard := none }).run P w) := by
  have h4 := run_loadCells_rd (P := P) (w := w) a n 0 #[] _ (by rw [Addr.add_zero']; exact hr)
  have h5 := run_bytesToString (P := P) w a n c ns (by simp only [loadCells, h4]; simp)
  have h6 := run_convert_bytes_string (P := P) w src dst e (some a) n c hs he hd
  rw [h5] at h6
  simp [execOp, hx, h6, ranTo, hK]
theorem pushes_size (ns : List Int) : ∀ s : ByteArray, (ns.foldl (fun r n => r.push (UInt8.ofNat n.toNat)) s).size = s.size + ns.length := by
  induction ns with
  | nil => intro s; rfl
  | cons n ns ih =>
    intro s
    rw [List.foldl_cons, ih, ByteArray.size_push, List.length_cons]
    omega

/-- 'xs[i:j:m]', where only its bounds are asked. -/
theorem ran_slice3 {P : Program} {t ty e : TypeId} {ρ : Operand → Value} {d : Option Nat} {x lo hi mx : Operand} {w : World} {K : Value → World → Prop} {a : Option Addr} {n c l h m size : Nat} {k1 k2 k3 : IntKind} (ht : P.underlying t = some (.slice e)) (hs : sizeB P e = some size)
    (hx : ρ x = .slice a n c) (hlo : ρ lo = .int k1 l) (hhi : ρ hi = .int k2 h) (hmx : ρ mx = .int k3 m) (h1 : l ≤ h) (h2 : h ≤ m) (h3 : m ≤ c) (hK : ∀ v, K v w) :
    ranTo K ((execOp ρ { dst := d, op := .slice t x (some lo) (some hi) (some mx), type := ty, pos := "", after := #[], guard := none }).run P w) := by
  simp [execOp, hx, hlo, hhi, hmx, Instr.sliceAt, Instr.slice, run_underlying ht, Instr.sliceBounds, Instr.sliceBound, asIntOf, run_sizeB hs, h1, h2, h3, ranTo, hK]

/-- An append that finds its room. -/
theorem ran_append_in {P : Program} {t ty T : TypeId} {i : TypeInfo} {ρ : Operand → Value} {d : Option Nat} {x y : Operand} {w : World} {K : Value → World → Prop} {g sLen sCap m c : Nat} {a : Addr} {cur news : List Value} (hx : ρ x = .slice (some ⟨g, 0, none⟩) sLen sCap) (hy : ρ y = .slice (some a) m c)
    (ht : P.underlying t = some (.slice T)) (hi : P.info? T = some i) (hg : Blk w g T cur) (hl : news.length = m * i.size) (hnews : rd w a (m * i.size) = some news) (h1 : ∀ u ∈ news, u.oneCell' = true) (hroom : sLen + m ≤ sCap) (hfit : sLen * i.size + news.length ≤ cur.length)
    (hK : K (.slice (some ⟨g, 0, none⟩) (sLen + m) sCap) (w.setRow g (cur.take (sLen * i.size) ++ news ++ cur.drop (sLen * i.size + news.length)).toArray)) :
    ranTo K ((execOp ρ { dst := d, op := .call { callee := .builtin .append, args := #[x, y], argTypes := #[t, t] }, type := ty, pos := "", after := #[], guard := none }).run P w) := by
  refine ranTo_append hx hy ?_
  have hcell : ∀ (n : Nat) (a : Addr) (l : List Value), Sx.rd w a n = some l → ∀ j u, l[j]? = some u → w.cell? (a.add j) = some u := by
    intro n
    induction n with
    | zero => intro a l hr j u hj; simp [Sx.rd] at hr; subst hr; simp at hj
    | succ n ih =>
      intro a l hr j u hj
      simp only [Sx.rd] at hr
      split at hr
      · rename_i x l' hx hl'
        cases hr
        cases j with
        | zero => simp at hj; subst hj; exact hx
        | succ j => simp at hj; have := ih _ _ hl' j u hj; rw [Addr.add_add', Nat.add_comm] at this; exact this
      · cases hr
  have := run_append_room (P := P) w t ty T i ht hi g sLen sCap cur.toArray hg a m c news hl (hcell _ _ _ hnews) h1 hroom (by simpa using hfit)
  exact ⟨_, _, this, hK⟩

/-- 'clear' of a slice's cells. -/
theorem ran_clear {P : Program} {t ty T : TypeId} {i : TypeInfo} {z : Value} {ρ : Operand → Value} {x : Operand} {w : World} {K : Value → World → Prop} {g o n c : Nat} {cur : List Value} (hx : ρ x = .slice (some ⟨g, o, none⟩) n c) (hn : 0 < n)
    (ht : P.underlying t = some (.slice T)) (hi : P.info? T = some i) (hz : i.zero = some z) (h1 : ∀ u ∈ z.cells.toList, u.oneCell' = true) (hpos : 0 < z.cells.size) (hg : Blk w g T cur) (hfit : o + n * z.cells.size ≤ cur.length)
    (hK : ∀ v, K v (w.setRow g (cur.take o ++ (List.replicate n z.cells.toList).flatten ++ cur.drop (o + n * z.cells.size)).toArray)) :
    ranTo K ((execOp ρ { dst := none, op := .call { callee := .builtin .clear, args := #[x], argTypes := #[t] }, type := ty, pos := "", after := #[], guard := none }).run P w) := by
  have hzc : (Builtin.zeroCells z.cells n).toList = (List.replicate n z.cells.toList).flatten := by
    have := zeros_eq z.cells z.cells.size n rfl hpos
    unfold Builtin.zeroCells
    rw [this]
  have hlen : ((List.replicate n z.cells.toList).flatten).length = n * z.cells.size := by simp
  have hst := run_storeCells_st (P := P) ⟨g, o, none⟩ ((List.replicate n z.cells.toList).flatten) 0 w _ (by
    rw [Addr.add_zero']
    exact hg.st _ o (by rw [hlen]; exact hfit) (by
      intro v hv
      simp only [List.mem_flatten, List.mem_replicate] at hv
      obtain ⟨l, ⟨_, rfl⟩, hv⟩ := hv
      exact h1 v hv))
  rw [hlen] at hst
  cases n with
  | zero => omega
  | succ n =>
    have hk := hK (.tuple #[])
    rw [List.append_assoc] at hk
    simp [execOp, hx, resolve, invoke, builtin, Builtin.clear_, run_underlying ht, zeroValue, typeInfo, hi, hz, hzc, hst, ranTo, hk]
/-- A slice that comes in: rows of so many cells, somewhere. -/
def ArgSl (w : World) (sz : Nat) (v : Value) (rows : List (List Value)) : Prop :=
  (rows = [] ∧ ∃ a c, v = .slice a 0 c) ∨
  ∃ (b o cap : Nat) (T : TypeId) (fz : Nat × Nat) (c : Array Value), v = .slice (some ⟨b, o, none⟩) rows.length cap ∧ w.heap[b]? = some (.cells c T fz) ∧ ∀ (k : Nat) (hk : k < rows.length), rows[k].length = sz ∧ ∀ j, j < sz → c[o + k * sz + j]? = rows[k][j]?
theorem ArgSl.len {w : World} {sz : Nat} {v : Value} {rows : List (List Value)} (h : ArgSl w sz v rows) : ∃ a cap, v = .slice a rows.length cap := by
  rcases h with ⟨rfl, a, c, rfl⟩ | ⟨b, o, cap, T, fz, c, rfl, _⟩
  · exact ⟨a, c, rfl⟩
  · exact ⟨_, cap, rfl⟩
theorem ArgSl.row {w w' : World} {sz : Nat} {v : Value} {rows : List (List Value)} (h : ArgSl w sz v rows) (hk : Keep w w') (hpos : 0 < sz) {k : Nat} (hlt : k < rows.length) :
    ∃ (b o cap : Nat) (T : TypeId) (fz : Nat × Nat) (c : Array Value), v = .slice (some ⟨b, o, none⟩) rows.length cap ∧ w'.heap[b]? = some (.cells c T fz) ∧ o + k * sz + sz ≤ c.size ∧ (c.toList.drop (o + k * sz)).take sz = rows[k] ∧ (∀ j, j < sz → c[o + k * sz + j]? = rows[k][j]?) ∧ b < w'.heap.size := by
  rcases h with ⟨rfl, _⟩ | ⟨b, o, cap, T, fz, c, rfl, hb, h⟩
  · simp at hlt
  · have hbl := (Array.getElem?_eq_some_iff.1 hb).1
    obtain ⟨h1, h2⟩ := h k hlt
    have hsz : o + k * sz + sz ≤ c.size := by
      have := h2 (sz - 1) (by omega)
      rw [List.getElem?_eq_getElem (by omega)] at this
      have := (Array.getElem?_eq_some_iff.1 this).1
      omega
    refine ⟨b, o, cap, T, fz, c, rfl, by rw [hk.block b hbl]; exact hb, hsz, ?_, h2, Nat.lt_of_lt_of_le hbl hk.size⟩
    apply List.ext_getElem?
    intro j
    by_cases hj : j < sz
    · rw [List.getElem?_take_of_lt hj, List.getElem?_drop, ← h2 j hj]; simp
    · rw [List.getElem?_take, if_neg hj, List.getElem?_eq_none (by omega)]
end Go.Sx
