/-
  SxM: memory by blocks.
-/
import Derived.Test.YtpocidlfjakmlaaSxJ
import Derived.Laws.AppendOwn
set_option linter.unusedSimpArgs false
set_option linter.unusedVariables false
namespace Go.Sx
open Go

/-- A block, whole. -/
def Blk (w : World) (b : Nat) (T : TypeId) (cs : List Value) : Prop := w.heap[b]? = some (.cells cs.toArray T (0, 0))

/-- Nothing but the blocks of F (and new ones) has turned. -/
structure Upd (F : List Nat) (w w' : World) : Prop where
  size : w.heap.size ≤ w'.heap.size
  os : w'.os = w.os
  tape : w'.tape = w.tape
  output : w'.output = w.output
  block : ∀ b, b < w.heap.size → b ∉ F → w'.heap[b]? = w.heap[b]?

theorem Upd.refl (F : List Nat) (w : World) : Upd F w w := ⟨Nat.le_refl _, rfl, rfl, rfl, fun _ _ _ => rfl⟩
theorem Upd.trans {F : List Nat} {a b c : World} (h : Upd F a b) (k : Upd F b c) : Upd F a c :=
  ⟨Nat.le_trans h.size k.size, k.os.trans h.os, k.tape.trans h.tape, k.output.trans h.output, fun i hi hf => (k.block i (Nat.lt_of_lt_of_le hi h.size) hf).trans (h.block i hi hf)⟩
theorem Upd.mono {F G : List Nat} {a b : World} (h : Upd F a b) (hs : ∀ x, x < a.heap.size → x ∈ F → x ∈ G) : Upd G a b :=
  ⟨h.size, h.os, h.tape, h.output, fun i hi hg => h.block i hi fun hf => hg (hs i hi hf)⟩
theorem Upd.trans' {F G H : List Nat} {a b c : World} (h : Upd F a b) (k : Upd G b c) (hf : ∀ x, x < a.heap.size → x ∈ F → x ∈ H) (hg : ∀ x, x < a.heap.size → x ∈ G → x ∈ H) : Upd H a c :=
  ⟨Nat.le_trans h.size k.size, k.os.trans h.os, k.tape.trans h.tape, k.output.trans h.output, fun i hi hn =>
    (k.block i (Nat.lt_of_lt_of_le hi h.size) fun hx => hn (hg i hi hx)).trans (h.block i hi fun hx => hn (hf i hi hx))⟩
theorem Upd.keep {w w' : World} (h : Upd [] w w') : Keep w w' := ⟨h.size, fun b hb => h.block b hb (by simp), h.os, h.tape, h.output⟩
theorem Upd.of_keep {F : List Nat} {w w' : World} (h : Keep w w') : Upd F w w' := ⟨h.size, h.os, h.tape, h.output, fun b hb _ => h.block b hb⟩
theorem Upd.alloc (F : List Nat) (w : World) (o : Obj) : Upd F w (w.alloc o) := ⟨by simp, rfl, rfl, rfl, fun b hb _ => heap_alloc_old w o hb⟩
theorem Upd.drew (F : List Nat) (w : World) : Upd F w w.drew := ⟨Nat.le_refl _, rfl, rfl, rfl, fun _ _ _ => rfl⟩
theorem Upd.setRow {F : List Nat} {w : World} {g : Nat} {cs : Array Value} (h : g ∈ F) : Upd F w (w.setRow g cs) :=
  ⟨by simp, rfl, rfl, rfl, fun b _ hf => setRow_other w g b cs fun e => hf (e ▸ h)⟩

section
variable {w w' : World} {b g : Nat} {T : TypeId} {cs : List Value}

theorem Blk.lt (h : Blk w b T cs) : b < w.heap.size := (Array.getElem?_eq_some_iff.1 h).1
theorem Blk.cell (h : Blk w b T cs) (o : Nat) : w.cell? ⟨b, o, none⟩ = cs[o]? := by simp [World.cell?, show w.heap[b]? = _ from h]
theorem Blk.frozen (h : Blk w b T cs) (o : Nat) : w.frozen? ⟨b, o, none⟩ = false := by simp [World.frozen?, show w.heap[b]? = _ from h]
theorem Blk.upd {F : List Nat} (h : Blk w b T cs) (hu : Upd F w w') (hf : b ∉ F) : Blk w' b T cs := by
  unfold Blk; rw [hu.block b h.lt hf]; exact h
theorem Blk.keep (h : Blk w b T cs) (hu : Keep w w') : Blk w' b T cs := by
  unfold Blk; rw [hu.block b h.lt]; exact h
theorem Blk.drew (h : Blk w b T cs) : Blk w.drew b T cs := h
theorem Blk.alloc (h : Blk w b T cs) (o : Obj) : Blk (w.alloc o) b T cs := by unfold Blk; rw [heap_alloc_old w o h.lt]; exact h
theorem Blk.new (w : World) (T : TypeId) (cs : Array Value) : Blk (w.alloc (.cells cs T)) w.heap.size T cs.toList := by unfold Blk; rw [heap_alloc_new w]
theorem Blk.set (h : Blk w b T cs) (ds : Array Value) : Blk (w.setRow b ds) b T ds.toList := by
  unfold Blk; rw [setRow_heap w b _ ds T (0, 0) h]
theorem Blk.other (h : Blk w b T cs) (hn : b ≠ g) (ds : Array Value) : Blk (w.setRow g ds) b T cs := by unfold Blk; rw [setRow_other w g b ds hn]; exact h

theorem Blk.rd (h : Blk w b T cs) : ∀ (n o : Nat), o + n ≤ cs.length → Sx.rd w ⟨b, o, none⟩ n = some ((cs.drop o).take n)
  | 0, o, _ => by simp [Sx.rd]
  | n + 1, o, hl => by
    have hlt : o < cs.length := by omega
    simp only [Sx.rd, h.cell o, List.getElem?_eq_getElem hlt]
    rw [Addr.add_lit, Blk.rd h n (o + 1) (by omega)]
    simp only [Option.some.injEq]
    rw [List.drop_eq_getElem_cons hlt, List.take_succ_cons]

theorem Blk.st (h : Blk w b T cs) : ∀ (vs : List Value) (o : Nat), o + vs.length ≤ cs.length → (∀ v ∈ vs, v.oneCell' = true) → stAt w ⟨b, o, none⟩ vs = some (w.setRow b (cs.take o ++ vs ++ cs.drop (o + vs.length)).toArray) := by
  intro vs
  induction vs generalizing w cs with
  | nil =>
    intro o hl _
    simp only [stAt, List.append_nil, List.length_nil, Nat.add_zero, List.take_append_drop]
    rw [setRow_self w b cs.toArray T (0, 0) h]
  | cons v r ih =>
    intro o hl hone
    simp only [List.length_cons] at hl
    have hlt : o < cs.length := by omega
    simp only [stAt]
    rw [if_pos ⟨hone v (by simp), by rw [h.cell o, List.getElem?_eq_getElem hlt]; rfl, h.frozen o⟩]
    rw [setCell_eq_setRow w b o cs.toArray T (0, 0) v h, Addr.add_lit]
    have hset : cs.toArray.setIfInBounds o v = (cs.set o v).toArray := by simp
    rw [hset]
    have h' : Blk (w.setRow b (cs.set o v).toArray) b T (cs.set o v) := by have := h.set (cs.set o v).toArray; simpa using this
    rw [ih h' (o + 1) (by simp; omega) (fun v hv => hone v (by simp [hv]))]
    rw [setRow_setRow]
    congr 2
    rw [List.take_set, List.drop_set_of_lt (by omega), List.take_succ_eq_append_getElem hlt, List.set_append_right o v (by simp; omega)]
    simp [Nat.min_eq_left (Nat.le_of_lt hlt), show o + (r.length + 1) = o + 1 + r.length from by omega]
end

theorem Upd.setNew {F : List Nat} {w w' : World} {g : Nat} {cs : Array Value} (h : Upd F w w') (hg : w.heap.size ≤ g) : Upd F w (w'.setRow g cs) :=
  ⟨by simpa using h.size, h.os, h.tape, h.output, fun b hb hf => by rw [setRow_other w' g b cs (by omega)]; exact h.block b hb hf⟩
theorem Keep.alloc (w : World) (o : Obj) : Keep w (w.alloc o) := ⟨by simp, fun b hb => heap_alloc_old w o hb, rfl, rfl, rfl⟩
theorem Keep.drew' (w : World) : Keep w w.drew := Keep.drew w

/-- A slice that owns its cells from the head of a block. -/
def Sl (w : World) (T : TypeId) (sz : Nat) (v : Value) (cs : List Value) (F : List Nat) : Prop :=
  (v = .slice none 0 0 ∧ cs = [] ∧ F = []) ∨
  ∃ g n cap sp, v = .slice (some ⟨g, 0, none⟩) n cap ∧ cs.length = n * sz ∧ n ≤ cap ∧ cap ≤ maxLen ∧ sp.length = (cap - n) * sz ∧ Blk w g T (cs ++ sp) ∧ F = [g]

theorem Sl.upd {F G : List Nat} {w w' : World} {T : TypeId} {sz : Nat} {v : Value} {cs : List Value} (h : Sl w T sz v cs F) (hu : Upd G w w') (hd : ∀ b ∈ F, b ∉ G) : Sl w' T sz v cs F := by
  rcases h with h | ⟨g, n, cap, sp, h1, h2, h3, h4, h5, h6, rfl⟩
  · exact .inl h
  · exact .inr ⟨g, n, cap, sp, h1, h2, h3, h4, h5, h6.upd hu (hd g (by simp)), rfl⟩
theorem Sl.lt {F : List Nat} {w : World} {T : TypeId} {sz : Nat} {v : Value} {cs : List Value} (h : Sl w T sz v cs F) : ∀ b ∈ F, b < w.heap.size := by
  rcases h with ⟨_, _, rfl⟩ | ⟨g, n, cap, sp, h1, h2, h3, h4, h5, h6, rfl⟩
  · simp
  · simp; exact h6.lt
theorem Sl.nil (w : World) (T : TypeId) (sz : Nat) : Sl w T sz (.slice none 0 0) [] [] := .inl ⟨rfl, rfl, rfl⟩
theorem Sl.len {F : List Nat} {w : World} {T : TypeId} {sz : Nat} {v : Value} {cs : List Value} (h : Sl w T sz v cs F) : ∃ a n cap, v = .slice a n cap ∧ cs.length = n * sz ∧ n ≤ cap := by
  rcases h with ⟨rfl, rfl, _⟩ | ⟨g, n, cap, sp, rfl, h2, h3, _⟩
  · exact ⟨none, 0, 0, rfl, by simp, Nat.le_refl _⟩
  · exact ⟨_, n, cap, rfl, h2, h3⟩

/-- What append does to such a slice. -/
theorem append_sl {P : Program} {w : World} {t ty T : TypeId} {i : TypeInfo} {z : Value} {sz bytes : Nat} (ht : P.underlying t = some (.slice T)) (hi : P.info? T = some i) (hz : i.zero = some z) (hsz : i.size = sz) (hby : i.bytes = bytes) (hzs : z.cells.size = sz) (hpos : 0 < sz)
    {v : Value} {cs F : List _} (h : Sl w T sz v cs F) {a : Addr} {m c : Nat} {news : List Value} (hl : news.length = m * sz) (hm : 0 < m) (hnews : Sx.rd w a (m * sz) = some news) (h1 : ∀ u ∈ news, u.oneCell' = true)
    (hroom : (cs.length + news.length) * bytes ≤ 140737488355328 * sz) (hlen : cs.length + news.length ≤ maxLen) :
    ∃ v' w' F', (Builtin.append_ #[t, t] ty #[v, .slice (some a) m c]).run P w = .ok v' w' ∧ Sl w' T sz v' (cs ++ news) F' ∧ Upd F w w' ∧ ∀ b ∈ F', b ∈ F ∨ w.heap.size ≤ b := by
  have hcell : ∀ j u, news[j]? = some u → w.cell? (a.add j) = some u := by
    have : ∀ (n : Nat) (a : Addr) (l : List Value), Sx.rd w a n = some l → ∀ j u, l[j]? = some u → w.cell? (a.add j) = some u := by
      intro n
      induction n with
      | zero => intro a l hr j u hj; simp [Sx.rd] at hr; subst hr; simp at hj
      | succ n ih =>
        intro a l hr j u hj
        simp only [Sx.rd] at hr
        split at hr
        · rename_i x l' hx hl'
          cases hr
          cases j with
          | zero => simp at hj; subst hj; exact hx
          | succ j => simp at hj; have := ih _ _ hl' j u hj; rw [Addr.add_add', Nat.add_comm] at this; exact this
        · cases hr
    exact this _ _ _ hnews
  subst hsz
  subst hby
  have hgrow : ∀ (n old : Nat), cs.length = n * i.size → 0 ≤ n → Sl (w.drew.alloc (.cells (cs.toArray ++ news.toArray ++ Builtin.zeroCells z.cells (grownCap w (n + m) old T - (n + m))) T)) T i.size (.slice (some ⟨w.heap.size, 0, none⟩) (n + m) (grownCap w (n + m) old T)) (cs ++ news) [w.heap.size] := by
    intro n old hc _
    have hge := grownCap_ge w (n + m) old T
    have hnm : n + m ≤ maxLen := by
      have : n + m ≤ (n + m) * i.size := Nat.le_mul_of_pos_right _ hpos
      rw [Nat.add_mul, ← hc, ← hl] at this
      omega
    have hcm : grownCap w (n + m) old T ≤ maxLen := grownCap_le_maxLen w (n + m) old T hnm
    refine .inr ⟨w.heap.size, n + m, grownCap w (n + m) old T, (Builtin.zeroCells z.cells (grownCap w (n + m) old T - (n + m))).toList, rfl, by simp [hc, hl, Nat.add_mul], hge, hcm, ?_, ?_, rfl⟩
    · rw [Array.length_toList, size_zeroCells, hzs]
    · have := Blk.new w.drew T (cs.toArray ++ news.toArray ++ Builtin.zeroCells z.cells (grownCap w (n + m) old T - (n + m)))
      simpa using this
  have hupd : ∀ (F : List Nat) (o : Obj), Upd F w (w.drew.alloc o) := fun F o => (Upd.drew F w).trans (Upd.alloc F w.drew o)
  rcases h with ⟨rfl, rfl, rfl⟩ | ⟨g, n, cap, sp, rfl, hc, hnc, hcm, hsp, hb, rfl⟩
  · simp only [List.length_nil, Nat.zero_add] at hroom hlen
    have hml : m ≤ maxLen := by have : m ≤ m * i.size := Nat.le_mul_of_pos_right _ hpos; omega
    have hr := run_append_nil (P := P) w t ty T i z ht hi hz a m c news hl hcell hm (by simp only [maxLen] at hml; omega) (by
      rw [hl, Nat.mul_right_comm] at hroom
      have := Nat.le_of_mul_le_mul_right hroom hpos
      omega)
    have hg := hgrow 0 0 (by simp) (Nat.le_refl _)
    simp only [Nat.zero_add, List.nil_append] at hg ⊢
    refine ⟨_, _, [w.heap.size], hr, ?_, hupd _ _, fun b hb => .inr (by simp at hb; omega)⟩
    simpa using hg
  · have hnm : (n + m) * i.size = cs.length + news.length := by rw [Nat.add_mul, hc, hl]
    have hbytes : (n + m) * i.bytes ≤ 140737488355328 := by
      rw [← hnm, Nat.mul_right_comm] at hroom
      exact Nat.le_of_mul_le_mul_right hroom hpos
    by_cases hroom' : n + m ≤ cap
    · have hr := run_append_room (P := P) w t ty T i ht hi g n cap (cs ++ sp).toArray hb a m c news hl hcell h1 hroom' (by
        simp only [List.size_toArray, List.length_append, hc, hl, hsp, ← Nat.add_mul]
        apply Nat.mul_le_mul_right; omega)
      refine ⟨_, _, [g], hr, .inr ⟨g, n + m, cap, sp.drop news.length, rfl, by simp [hc, hl, Nat.add_mul], hroom', hcm, ?_, ?_, rfl⟩, Upd.setRow (by simp), fun b hb => .inl hb⟩
      · rw [List.length_drop, hsp, hl, ← Nat.sub_mul]; congr 1; omega
      · have := hb.set ((cs ++ sp).toArray.toList.take (n * i.size) ++ news ++ (cs ++ sp).toArray.toList.drop (n * i.size + news.length)).toArray
        have hd2 : List.drop (cs.length + news.length) cs = [] := List.drop_eq_nil_of_le (by omega)
        simpa [← hc, hd2, List.drop_append] using this
    · have hr := run_append_grow (P := P) w t ty T i z ht hi hz ⟨g, 0, none⟩ n cap cs hc (by
        intro j u hj
        rw [Addr.add_lit, Nat.zero_add, hb.cell j]
        have hjl := (List.getElem?_eq_some_iff.1 hj).1
        rw [List.getElem?_append_left hjl]; exact hj) a m c news hl hcell (by omega) (by
          have : n + m ≤ (n + m) * i.size := Nat.le_mul_of_pos_right _ hpos
          rw [hnm] at this
          simp only [maxLen] at hlen
          omega) (growslice_fits (by omega) hbytes)
      refine ⟨_, _, _, hr, hgrow n cap hc (Nat.zero_le _), hupd _ _, fun b hb => .inr (by simp at hb; omega)⟩

theorem Sl.inj {F : List Nat} {w : World} {T : TypeId} {sz : Nat} {v : Value} {cs ds : List Value} (h : Sl w T sz v cs F) (e : cs = ds) : Sl w T sz v ds F := e ▸ h

/-- One element more: 'xs = append(xs, x)', x laid in a new block. -/
theorem append1 {P : Program} {w : World} {t ty T : TypeId} {i : TypeInfo} {z : Value} {sz bytes : Nat} (ht : P.underlying t = some (.slice T)) (hi : P.info? T = some i) (hz : i.zero = some z) (hsz : i.size = sz) (hby : i.bytes = bytes) (hzs : z.cells.size = sz) (hpos : 0 < sz)
    {v : Value} {cs : List Value} {F : List Nat} (h : Sl w T sz v cs F) {news : List Value} (hl : news.length = sz) (h1 : ∀ u ∈ news, u.oneCell' = true)
    (hroom : (cs.length + sz) * bytes ≤ 140737488355328 * sz) (hlen : cs.length + sz ≤ maxLen) {n : Nat} (hn : n = w.heap.size) {K : Value → World → Prop}
    (hK : ∀ a m c w' F', Sl w' T sz (.slice a m c) (cs ++ news) F' → Upd F w w' → (∀ b ∈ F', b ∈ F ∨ w.heap.size ≤ b) → K (.slice a m c) w') :
    ∃ v' w', (Builtin.append_ #[t, t] ty #[v, .slice (some ⟨n, 0, none⟩) 1 1]).run P (w.alloc (.cells news.toArray T)) = .ok v' w' ∧ K v' w' := by
  subst hn
  have hs2 := h.upd (Upd.alloc [] w (.cells news.toArray T)) (by simp)
  have hB := Blk.new w T news.toArray
  have hrd := hB.rd (1 * sz) 0 (by simp [hl])
  have hnews : Sx.rd (w.alloc (.cells news.toArray T)) ⟨w.heap.size, 0, none⟩ (1 * sz) = some news := by
    rw [hrd]; simp only [List.drop_zero, Option.some.injEq]; exact List.take_of_length_le (by simp [hl])
  obtain ⟨v', w', F', hr, hs', hu', hf'⟩ := append_sl (ty := ty) ht hi hz hsz hby hzs hpos hs2 (a := ⟨w.heap.size, 0, none⟩) (m := 1) (c := 1) (news := news) (by simp [hl]) (by omega) hnews h1 (by rw [hl]; exact hroom) (by rw [hl]; exact hlen)
  obtain ⟨a, m, c, rfl, _⟩ := hs'.len
  refine ⟨_, w', hr, hK a m c w' F' hs' ((Upd.alloc F w _).trans hu') fun b hb => ?_⟩
  rcases hf' b hb with h | h
  · exact .inl h
  · exact .inr (by simp at h; omega)

theorem append0 {P : Program} {w : World} {t ty T : TypeId} {i : TypeInfo} (ht : P.underlying t = some (.slice T)) (hi : P.info? T = some i) {a b : Option Addr} {n cap c : Nat} (h : n ≤ cap) :
    (Builtin.append_ #[t, t] ty #[.slice a n cap, .slice b 0 c]).run P w = .ok (.slice a n cap) w := by
  cases a <;> cases b <;> simp [Builtin.append_, run_underlying ht, sizeOf, typeInfo, hi, Builtin.lenOf, h, Builtin.firstCells, loadCells, loadCellsFrom, storeCells]
end Go.Sx
