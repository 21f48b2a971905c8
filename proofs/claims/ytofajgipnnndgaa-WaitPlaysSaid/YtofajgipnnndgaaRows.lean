/-
  No cell of these rows narrows 'for every input' (looked for: loops, veiled, ifaces, maps, wideKeys, modest, calm, conditions, laid).
  DERIVED. THE GIVEN ROWS OF THIS SEAT. 8 by the template 'for every input the law returns true; each argument reads behind the call as it read before'; 0 by the template 'total and deterministic' (their statements: YtofajgipnnndgaaTotals.lean).
  GIVEN WITH THE SEED: the statements are not yours to turn. If you find one false, say at which input.
  Laid BY PROGRAM, IN A SANDBOX (cutbox-rows.mjs): the forced cells as the released guide's own fill.sh prints them over the translation 089df8373ba41ca9… (all of the seat's roots in one cut). By AI agents, Wed Nov 11 2026. No macro, syntax, notation, axiom, sorry.
-/
import Derived.Test.YtofajgipnnndgaaChecked
import GoSem.Claim
import GoSem.ClaimJoined
import GoSem.ClaimMapViews
import Derived.JoinedTies
import Derived.KernelRfl
namespace Go.Proofs.Ytofajgipnnndgaa
/- THE CELL 'sum', in the pinned program and in every row, IS THE sha256 OF THE DUMP (.gsa) THAT YtofajgipnnndgaaProg.lean LOADS. Nothing in Lean hashes anything: it is a label: what it is worth is what the hold of that sum in a sandbox is worth. -/
noncomputable def Try.pinned : Pinned := { name := "ytofajgipnnndgaa", sum := "089df8373ba41ca9421d17b0a24d4d0d7a554aa90db2e7090c2487b1720d16d6", checked := Try.checked }
namespace Rows
def none {H : Type} : Left H := { results := [], args := [] }

/-- 'milepostlaw19.WaitEnds': WHATEVER THE INPUT: true; the input reads as it did. -/
def waitEndsSpec : ChangeSpec := { name := "waitEnds", fn := fun _ => fun
  | [d1, d2, d3, d4] => { results := [.lit (.bool true)], args := [d1, d2, d3, d4] }
  | _ => none }
def waitEndsRow : OpenClaim := { program := "ytofajgipnnndgaa", sum := "089df8373ba41ca9421d17b0a24d4d0d7a554aa90db2e7090c2487b1720d16d6", func := "milepost/milepostlaw19.WaitEnds", spec := "waitEnds", apart := false }
def WaitEndsSaid : Prop := waitEndsRow.holds Try.pinned (OpenSpec.ofChange waitEndsSpec)

/-- ITS FALSE NEIGHBOUR: 'it returns false'. Refute it at one input. -/
def waitEndsWrong : ChangeSpec := { name := "waitEnds", fn := fun _ => fun
  | [d1, d2, d3, d4] => { results := [.lit (.bool false)], args := [d1, d2, d3, d4] }
  | _ => none }
def WaitEndsWrongFalsely : Prop := waitEndsRow.holds Try.pinned (OpenSpec.ofChange waitEndsWrong)

/-- 'milepostlaw05.LexReads': WHATEVER THE INPUT: true; the input reads as it did. -/
def lexReadsSpec : ChangeSpec := { name := "lexReads", fn := fun _ => fun
  | [d] => { results := [.lit (.bool true)], args := [d] }
  | _ => none }
def lexReadsRow : OpenClaim := { program := "ytofajgipnnndgaa", sum := "089df8373ba41ca9421d17b0a24d4d0d7a554aa90db2e7090c2487b1720d16d6", func := "milepost/milepostlaw05.LexReads", spec := "lexReads", apart := false }
def LexReadsSaid : Prop := lexReadsRow.holds Try.pinned (OpenSpec.ofChange lexReadsSpec)

/-- ITS FALSE NEIGHBOUR: 'it returns false'. Refute it at one input. -/
def lexReadsWrong : ChangeSpec := { name := "lexReads", fn := fun _ => fun
  | [d] => { results := [.lit (.bool false)], args := [d] }
  | _ => none }
def LexReadsWrongFalsely : Prop := lexReadsRow.holds Try.pinned (OpenSpec.ofChange lexReadsWrong)

/-- 'milepostlaw05.LexPlaces': WHATEVER THE INPUT: true; the input reads as it did. -/
def lexPlacesSpec : ChangeSpec := { name := "lexPlaces", fn := fun _ => fun
  | [d] => { results := [.lit (.bool true)], args := [d] }
  | _ => none }
def lexPlacesRow : OpenClaim := { program := "ytofajgipnnndgaa", sum := "089df8373ba41ca9421d17b0a24d4d0d7a554aa90db2e7090c2487b1720d16d6", func := "milepost/milepostlaw05.LexPlaces", spec := "lexPlaces", apart := false }
def LexPlacesSaid : Prop := lexPlacesRow.holds Try.pinned (OpenSpec.ofChange lexPlacesSpec)

/-- ITS FALSE NEIGHBOUR: 'it returns false'. Refute it at one input. -/
def lexPlacesWrong : ChangeSpec := { name := "lexPlaces", fn := fun _ => fun
  | [d] => { results := [.lit (.bool false)], args := [d] }
  | _ => none }
def LexPlacesWrongFalsely : Prop := lexPlacesRow.holds Try.pinned (OpenSpec.ofChange lexPlacesWrong)

/-- 'milepostlaw05.LexBlanks': WHATEVER THE INPUT: true; the input reads as it did. -/
def lexBlanksSpec : ChangeSpec := { name := "lexBlanks", fn := fun _ => fun
  | [d1, d2, d3] => { results := [.lit (.bool true)], args := [d1, d2, d3] }
  | _ => none }
def lexBlanksRow : OpenClaim := { program := "ytofajgipnnndgaa", sum := "089df8373ba41ca9421d17b0a24d4d0d7a554aa90db2e7090c2487b1720d16d6", func := "milepost/milepostlaw05.LexBlanks", spec := "lexBlanks", apart := false }
def LexBlanksSaid : Prop := lexBlanksRow.holds Try.pinned (OpenSpec.ofChange lexBlanksSpec)

/-- ITS FALSE NEIGHBOUR: 'it returns false'. Refute it at one input. -/
def lexBlanksWrong : ChangeSpec := { name := "lexBlanks", fn := fun _ => fun
  | [d1, d2, d3] => { results := [.lit (.bool false)], args := [d1, d2, d3] }
  | _ => none }
def LexBlanksWrongFalsely : Prop := lexBlanksRow.holds Try.pinned (OpenSpec.ofChange lexBlanksWrong)

/-- 'milepostlaw05.LexLong': WHATEVER THE INPUT: true; the input reads as it did. -/
def lexLongSpec : ChangeSpec := { name := "lexLong", fn := fun _ => fun
  | [d] => { results := [.lit (.bool true)], args := [d] }
  | _ => none }
def lexLongRow : OpenClaim := { program := "ytofajgipnnndgaa", sum := "089df8373ba41ca9421d17b0a24d4d0d7a554aa90db2e7090c2487b1720d16d6", func := "milepost/milepostlaw05.LexLong", spec := "lexLong", apart := false }
def LexLongSaid : Prop := lexLongRow.holds Try.pinned (OpenSpec.ofChange lexLongSpec)

/-- ITS FALSE NEIGHBOUR: 'it returns false'. Refute it at one input. -/
def lexLongWrong : ChangeSpec := { name := "lexLong", fn := fun _ => fun
  | [d] => { results := [.lit (.bool false)], args := [d] }
  | _ => none }
def LexLongWrongFalsely : Prop := lexLongRow.holds Try.pinned (OpenSpec.ofChange lexLongWrong)

/-- 'milepostlaw19.WaitPlays': WHATEVER THE INPUT: true; the input reads as it did. -/
def waitPlaysSpec : ChangeSpec := { name := "waitPlays", fn := fun _ => fun
  | [d1, d2, d3, d4] => { results := [.lit (.bool true)], args := [d1, d2, d3, d4] }
  | _ => none }
def waitPlaysRow : OpenClaim := { program := "ytofajgipnnndgaa", sum := "089df8373ba41ca9421d17b0a24d4d0d7a554aa90db2e7090c2487b1720d16d6", func := "milepost/milepostlaw19.WaitPlays", spec := "waitPlays", apart := false }
def WaitPlaysSaid : Prop := waitPlaysRow.holds Try.pinned (OpenSpec.ofChange waitPlaysSpec)

/-- ITS FALSE NEIGHBOUR: 'it returns false'. Refute it at one input. -/
def waitPlaysWrong : ChangeSpec := { name := "waitPlays", fn := fun _ => fun
  | [d1, d2, d3, d4] => { results := [.lit (.bool false)], args := [d1, d2, d3, d4] }
  | _ => none }
def WaitPlaysWrongFalsely : Prop := waitPlaysRow.holds Try.pinned (OpenSpec.ofChange waitPlaysWrong)

/-- 'milepostlaw19.WaitOnce': WHATEVER THE INPUT: true; the input reads as it did. -/
def waitOnceSpec : ChangeSpec := { name := "waitOnce", fn := fun _ => fun
  | [d1, d2, d3, d4] => { results := [.lit (.bool true)], args := [d1, d2, d3, d4] }
  | _ => none }
def waitOnceRow : OpenClaim := { program := "ytofajgipnnndgaa", sum := "089df8373ba41ca9421d17b0a24d4d0d7a554aa90db2e7090c2487b1720d16d6", func := "milepost/milepostlaw19.WaitOnce", spec := "waitOnce", apart := false }
def WaitOnceSaid : Prop := waitOnceRow.holds Try.pinned (OpenSpec.ofChange waitOnceSpec)

/-- ITS FALSE NEIGHBOUR: 'it returns false'. Refute it at one input. -/
def waitOnceWrong : ChangeSpec := { name := "waitOnce", fn := fun _ => fun
  | [d1, d2, d3, d4] => { results := [.lit (.bool false)], args := [d1, d2, d3, d4] }
  | _ => none }
def WaitOnceWrongFalsely : Prop := waitOnceRow.holds Try.pinned (OpenSpec.ofChange waitOnceWrong)

/-- 'milepostlaw19.WaitNil': WHATEVER THE INPUT: true; the input reads as it did. -/
def waitNilSpec : ChangeSpec := { name := "waitNil", fn := fun _ => fun
  | [d] => { results := [.lit (.bool true)], args := [d] }
  | _ => none }
def waitNilRow : OpenClaim := { program := "ytofajgipnnndgaa", sum := "089df8373ba41ca9421d17b0a24d4d0d7a554aa90db2e7090c2487b1720d16d6", func := "milepost/milepostlaw19.WaitNil", spec := "waitNil", apart := false }
def WaitNilSaid : Prop := waitNilRow.holds Try.pinned (OpenSpec.ofChange waitNilSpec)

/-- ITS FALSE NEIGHBOUR: 'it returns false'. Refute it at one input. -/
def waitNilWrong : ChangeSpec := { name := "waitNil", fn := fun _ => fun
  | [d] => { results := [.lit (.bool false)], args := [d] }
  | _ => none }
def WaitNilWrongFalsely : Prop := waitNilRow.holds Try.pinned (OpenSpec.ofChange waitNilWrong)

/- THE SECOND FORM. 'bulk': how many values and letters a reading holds, each counted each time it is reached (what is shared counts as often as it is met; a slice's spare places count too). A statement '..UptoSaid' is the law's where the arguments, and the package variables that the reading takes, are together of bulk at most 1048576: NARROWER than '..Said'. Prove '..Said' where nothing that the law and all that it calls make is longer than what came in: it says more and counts as full. Else prove '..UptoSaid'. A law counts once. -/
mutual
def uptoBulk {H : Type} : DataW H → Nat
  | .lit (.string bytes) => bytes.length + 1
  | .lit _ => 1
  | .nil => 1
  | .ptr d => uptoBulk d + 1
  | .slice elems spare => uptoBulkAll elems + uptoBulkAll spare + 1
  | .agg parts => uptoBulkAll parts + 1
  | .iface _ d => uptoBulk d + 1
  | .map entries => uptoBulkEntries entries + 1
  | .held _ => 1
def uptoBulkAll {H : Type} : List (DataW H) → Nat
  | [] => 0
  | d :: r => uptoBulk d + uptoBulkAll r
def uptoBulkEntries {H : Type} : List (Lit × DataW H) → Nat
  | [] => 0
  | x :: r => uptoBulkEntry x + uptoBulkEntries r
def uptoBulkEntry {H : Type} : Lit × DataW H → Nat
  | (.string bytes, d) => bytes.length + uptoBulk d + 1
  | (_, d) => uptoBulk d + 1
 end
def uptoSmall : (H : Type) → List (DataW H) → Bool := fun _ ds => decide (uptoBulkAll ds ≤ 1048576)
def OpenSpec.upto (s : _root_.Go.ChangeSpec) : _root_.Go.OpenSpec := { _root_.Go.OpenSpec.ofChange s with cond := some uptoSmall }

/-- 'milepostlaw19.WaitEnds', WHERE WHAT IT READS IS OF BULK AT MOST 1048576: true; the input reads as it did. -/
def waitEndsUptoRow : OpenClaim := { program := "ytofajgipnnndgaa", sum := "089df8373ba41ca9421d17b0a24d4d0d7a554aa90db2e7090c2487b1720d16d6", func := "milepost/milepostlaw19.WaitEnds", spec := "waitEnds", apart := false, narrowed := true }
def WaitEndsUptoSaid : Prop := waitEndsUptoRow.holds Try.pinned (OpenSpec.upto waitEndsSpec)

/-- 'milepostlaw05.LexReads', WHERE WHAT IT READS IS OF BULK AT MOST 1048576: true; the input reads as it did. -/
def lexReadsUptoRow : OpenClaim := { program := "ytofajgipnnndgaa", sum := "089df8373ba41ca9421d17b0a24d4d0d7a554aa90db2e7090c2487b1720d16d6", func := "milepost/milepostlaw05.LexReads", spec := "lexReads", apart := false, narrowed := true }
def LexReadsUptoSaid : Prop := lexReadsUptoRow.holds Try.pinned (OpenSpec.upto lexReadsSpec)

/-- 'milepostlaw05.LexPlaces', WHERE WHAT IT READS IS OF BULK AT MOST 1048576: true; the input reads as it did. -/
def lexPlacesUptoRow : OpenClaim := { program := "ytofajgipnnndgaa", sum := "089df8373ba41ca9421d17b0a24d4d0d7a554aa90db2e7090c2487b1720d16d6", func := "milepost/milepostlaw05.LexPlaces", spec := "lexPlaces", apart := false, narrowed := true }
def LexPlacesUptoSaid : Prop := lexPlacesUptoRow.holds Try.pinned (OpenSpec.upto lexPlacesSpec)

/-- 'milepostlaw05.LexBlanks', WHERE WHAT IT READS IS OF BULK AT MOST 1048576: true; the input reads as it did. -/
def lexBlanksUptoRow : OpenClaim := { program := "ytofajgipnnndgaa", sum := "089df8373ba41ca9421d17b0a24d4d0d7a554aa90db2e7090c2487b1720d16d6", func := "milepost/milepostlaw05.LexBlanks", spec := "lexBlanks", apart := false, narrowed := true }
def LexBlanksUptoSaid : Prop := lexBlanksUptoRow.holds Try.pinned (OpenSpec.upto lexBlanksSpec)

/-- 'milepostlaw05.LexLong', WHERE WHAT IT READS IS OF BULK AT MOST 1048576: true; the input reads as it did. -/
def lexLongUptoRow : OpenClaim := { program := "ytofajgipnnndgaa", sum := "089df8373ba41ca9421d17b0a24d4d0d7a554aa90db2e7090c2487b1720d16d6", func := "milepost/milepostlaw05.LexLong", spec := "lexLong", apart := false, narrowed := true }
def LexLongUptoSaid : Prop := lexLongUptoRow.holds Try.pinned (OpenSpec.upto lexLongSpec)

/-- 'milepostlaw19.WaitPlays', WHERE WHAT IT READS IS OF BULK AT MOST 1048576: true; the input reads as it did. -/
def waitPlaysUptoRow : OpenClaim := { program := "ytofajgipnnndgaa", sum := "089df8373ba41ca9421d17b0a24d4d0d7a554aa90db2e7090c2487b1720d16d6", func := "milepost/milepostlaw19.WaitPlays", spec := "waitPlays", apart := false, narrowed := true }
def WaitPlaysUptoSaid : Prop := waitPlaysUptoRow.holds Try.pinned (OpenSpec.upto waitPlaysSpec)

/-- 'milepostlaw19.WaitOnce', WHERE WHAT IT READS IS OF BULK AT MOST 1048576: true; the input reads as it did. -/
def waitOnceUptoRow : OpenClaim := { program := "ytofajgipnnndgaa", sum := "089df8373ba41ca9421d17b0a24d4d0d7a554aa90db2e7090c2487b1720d16d6", func := "milepost/milepostlaw19.WaitOnce", spec := "waitOnce", apart := false, narrowed := true }
def WaitOnceUptoSaid : Prop := waitOnceUptoRow.holds Try.pinned (OpenSpec.upto waitOnceSpec)

/-- 'milepostlaw19.WaitNil', WHERE WHAT IT READS IS OF BULK AT MOST 1048576: true; the input reads as it did. -/
def waitNilUptoRow : OpenClaim := { program := "ytofajgipnnndgaa", sum := "089df8373ba41ca9421d17b0a24d4d0d7a554aa90db2e7090c2487b1720d16d6", func := "milepost/milepostlaw19.WaitNil", spec := "waitNil", apart := false, narrowed := true }
def WaitNilUptoSaid : Prop := waitNilUptoRow.holds Try.pinned (OpenSpec.upto waitNilSpec)

end Rows
end Go.Proofs.Ytofajgipnnndgaa
