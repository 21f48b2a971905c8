/-
  No cell of these rows narrows 'for every input' (looked for: loops, veiled, ifaces, maps, wideKeys, modest, calm, conditions, laid).
  DERIVED. THE GIVEN ROWS OF THIS SEAT. 8 by the template 'for every input the law returns true; each argument reads behind the call as it read before'; 0 by the template 'total and deterministic' (their statements: YtpocidlfjakmlaaTotals.lean).
  GIVEN WITH THE SEED: the statements are not yours to turn. If you find one false, say at which input.
  Laid BY PROGRAM, IN A SANDBOX (cutbox-rows.mjs): the forced cells as the released guide's own fill.sh prints them over the translation 8630e11c9b91c610… (all of the seat's roots in one cut). By AI agents, Wed Nov 11 2026. No macro, syntax, notation, axiom, sorry.
-/
import Derived.Test.YtpocidlfjakmlaaChecked
import GoSem.Claim
import GoSem.ClaimJoined
import GoSem.ClaimMapViews
import Derived.JoinedTies
import Derived.KernelRfl
namespace Go.Proofs.Ytpocidlfjakmlaa
/- THE CELL 'sum', in the pinned program and in every row, IS THE sha256 OF THE DUMP (.gsa) THAT YtpocidlfjakmlaaProg.lean LOADS. Nothing in Lean hashes anything: it is a label: what it is worth is what the hold of that sum in a sandbox is worth. -/
noncomputable def Try.pinned : Pinned := { name := "ytpocidlfjakmlaa", sum := "8630e11c9b91c610fe2fcf699e45e71d83cf6dd937e28d2fa32fb66761c32bdc", checked := Try.checked }
namespace Rows
def none {H : Type} : Left H := { results := [], args := [] }

/-- 'milepostlaw17.NetDrains': WHATEVER THE INPUT: true; the input reads as it did. -/
def netDrainsSpec : ChangeSpec := { name := "netDrains", fn := fun _ => fun
  | [d1, d2, d3] => { results := [.lit (.bool true)], args := [d1, d2, d3] }
  | _ => none }
def netDrainsRow : OpenClaim := { program := "ytpocidlfjakmlaa", sum := "8630e11c9b91c610fe2fcf699e45e71d83cf6dd937e28d2fa32fb66761c32bdc", func := "milepost/milepostlaw17.NetDrains", spec := "netDrains", apart := false }
def NetDrainsSaid : Prop := netDrainsRow.holds Try.pinned (OpenSpec.ofChange netDrainsSpec)

/-- ITS FALSE NEIGHBOUR: 'it returns false'. Refute it at one input. -/
def netDrainsWrong : ChangeSpec := { name := "netDrains", fn := fun _ => fun
  | [d1, d2, d3] => { results := [.lit (.bool false)], args := [d1, d2, d3] }
  | _ => none }
def NetDrainsWrongFalsely : Prop := netDrainsRow.holds Try.pinned (OpenSpec.ofChange netDrainsWrong)

/-- 'milepostlaw17.NetPlays': WHATEVER THE INPUT: true; the input reads as it did. -/
def netPlaysSpec : ChangeSpec := { name := "netPlays", fn := fun _ => fun
  | [d1, d2, d3] => { results := [.lit (.bool true)], args := [d1, d2, d3] }
  | _ => none }
def netPlaysRow : OpenClaim := { program := "ytpocidlfjakmlaa", sum := "8630e11c9b91c610fe2fcf699e45e71d83cf6dd937e28d2fa32fb66761c32bdc", func := "milepost/milepostlaw17.NetPlays", spec := "netPlays", apart := false }
def NetPlaysSaid : Prop := netPlaysRow.holds Try.pinned (OpenSpec.ofChange netPlaysSpec)

/-- ITS FALSE NEIGHBOUR: 'it returns false'. Refute it at one input. -/
def netPlaysWrong : ChangeSpec := { name := "netPlays", fn := fun _ => fun
  | [d1, d2, d3] => { results := [.lit (.bool false)], args := [d1, d2, d3] }
  | _ => none }
def NetPlaysWrongFalsely : Prop := netPlaysRow.holds Try.pinned (OpenSpec.ofChange netPlaysWrong)

/-- 'milepostlaw17.NetBounds': WHATEVER THE INPUT: true; the input reads as it did. -/
def netBoundsSpec : ChangeSpec := { name := "netBounds", fn := fun _ => fun
  | [d1, d2, d3] => { results := [.lit (.bool true)], args := [d1, d2, d3] }
  | _ => none }
def netBoundsRow : OpenClaim := { program := "ytpocidlfjakmlaa", sum := "8630e11c9b91c610fe2fcf699e45e71d83cf6dd937e28d2fa32fb66761c32bdc", func := "milepost/milepostlaw17.NetBounds", spec := "netBounds", apart := false }
def NetBoundsSaid : Prop := netBoundsRow.holds Try.pinned (OpenSpec.ofChange netBoundsSpec)

/-- ITS FALSE NEIGHBOUR: 'it returns false'. Refute it at one input. -/
def netBoundsWrong : ChangeSpec := { name := "netBounds", fn := fun _ => fun
  | [d1, d2, d3] => { results := [.lit (.bool false)], args := [d1, d2, d3] }
  | _ => none }
def NetBoundsWrongFalsely : Prop := netBoundsRow.holds Try.pinned (OpenSpec.ofChange netBoundsWrong)

/-- 'milepostlaw17.NetNil': WHATEVER THE INPUT: true; the input reads as it did. -/
def netNilSpec : ChangeSpec := { name := "netNil", fn := fun _ => fun
  | [d] => { results := [.lit (.bool true)], args := [d] }
  | _ => none }
def netNilRow : OpenClaim := { program := "ytpocidlfjakmlaa", sum := "8630e11c9b91c610fe2fcf699e45e71d83cf6dd937e28d2fa32fb66761c32bdc", func := "milepost/milepostlaw17.NetNil", spec := "netNil", apart := false }
def NetNilSaid : Prop := netNilRow.holds Try.pinned (OpenSpec.ofChange netNilSpec)

/-- ITS FALSE NEIGHBOUR: 'it returns false'. Refute it at one input. -/
def netNilWrong : ChangeSpec := { name := "netNil", fn := fun _ => fun
  | [d] => { results := [.lit (.bool false)], args := [d] }
  | _ => none }
def NetNilWrongFalsely : Prop := netNilRow.holds Try.pinned (OpenSpec.ofChange netNilWrong)

/-- 'milepostlaw21.RollSafe': WHATEVER THE INPUT: true; the input reads as it did. -/
def rollSafeSpec : ChangeSpec := { name := "rollSafe", fn := fun _ => fun
  | [d1, d2, d3, d4] => { results := [.lit (.bool true)], args := [d1, d2, d3, d4] }
  | _ => none }
def rollSafeRow : OpenClaim := { program := "ytpocidlfjakmlaa", sum := "8630e11c9b91c610fe2fcf699e45e71d83cf6dd937e28d2fa32fb66761c32bdc", func := "milepost/milepostlaw21.RollSafe", spec := "rollSafe", apart := false }
def RollSafeSaid : Prop := rollSafeRow.holds Try.pinned (OpenSpec.ofChange rollSafeSpec)

/-- ITS FALSE NEIGHBOUR: 'it returns false'. Refute it at one input. -/
def rollSafeWrong : ChangeSpec := { name := "rollSafe", fn := fun _ => fun
  | [d1, d2, d3, d4] => { results := [.lit (.bool false)], args := [d1, d2, d3, d4] }
  | _ => none }
def RollSafeWrongFalsely : Prop := rollSafeRow.holds Try.pinned (OpenSpec.ofChange rollSafeWrong)

/-- 'milepostlaw21.RollLives': WHATEVER THE INPUT: true; the input reads as it did. -/
def rollLivesSpec : ChangeSpec := { name := "rollLives", fn := fun _ => fun
  | [d1, d2, d3] => { results := [.lit (.bool true)], args := [d1, d2, d3] }
  | _ => none }
def rollLivesRow : OpenClaim := { program := "ytpocidlfjakmlaa", sum := "8630e11c9b91c610fe2fcf699e45e71d83cf6dd937e28d2fa32fb66761c32bdc", func := "milepost/milepostlaw21.RollLives", spec := "rollLives", apart := false }
def RollLivesSaid : Prop := rollLivesRow.holds Try.pinned (OpenSpec.ofChange rollLivesSpec)

/-- ITS FALSE NEIGHBOUR: 'it returns false'. Refute it at one input. -/
def rollLivesWrong : ChangeSpec := { name := "rollLives", fn := fun _ => fun
  | [d1, d2, d3] => { results := [.lit (.bool false)], args := [d1, d2, d3] }
  | _ => none }
def RollLivesWrongFalsely : Prop := rollLivesRow.holds Try.pinned (OpenSpec.ofChange rollLivesWrong)

/-- 'milepostlaw21.RollPlays': WHATEVER THE INPUT: true; the input reads as it did. -/
def rollPlaysSpec : ChangeSpec := { name := "rollPlays", fn := fun _ => fun
  | [d1, d2, d3] => { results := [.lit (.bool true)], args := [d1, d2, d3] }
  | _ => none }
def rollPlaysRow : OpenClaim := { program := "ytpocidlfjakmlaa", sum := "8630e11c9b91c610fe2fcf699e45e71d83cf6dd937e28d2fa32fb66761c32bdc", func := "milepost/milepostlaw21.RollPlays", spec := "rollPlays", apart := false }
def RollPlaysSaid : Prop := rollPlaysRow.holds Try.pinned (OpenSpec.ofChange rollPlaysSpec)

/-- ITS FALSE NEIGHBOUR: 'it returns false'. Refute it at one input. -/
def rollPlaysWrong : ChangeSpec := { name := "rollPlays", fn := fun _ => fun
  | [d1, d2, d3] => { results := [.lit (.bool false)], args := [d1, d2, d3] }
  | _ => none }
def RollPlaysWrongFalsely : Prop := rollPlaysRow.holds Try.pinned (OpenSpec.ofChange rollPlaysWrong)

/-- 'milepostlaw21.RollNil': WHATEVER THE INPUT: true; the input reads as it did. -/
def rollNilSpec : ChangeSpec := { name := "rollNil", fn := fun _ => fun
  | [d1, d2] => { results := [.lit (.bool true)], args := [d1, d2] }
  | _ => none }
def rollNilRow : OpenClaim := { program := "ytpocidlfjakmlaa", sum := "8630e11c9b91c610fe2fcf699e45e71d83cf6dd937e28d2fa32fb66761c32bdc", func := "milepost/milepostlaw21.RollNil", spec := "rollNil", apart := false }
def RollNilSaid : Prop := rollNilRow.holds Try.pinned (OpenSpec.ofChange rollNilSpec)

/-- ITS FALSE NEIGHBOUR: 'it returns false'. Refute it at one input. -/
def rollNilWrong : ChangeSpec := { name := "rollNil", fn := fun _ => fun
  | [d1, d2] => { results := [.lit (.bool false)], args := [d1, d2] }
  | _ => none }
def RollNilWrongFalsely : Prop := rollNilRow.holds Try.pinned (OpenSpec.ofChange rollNilWrong)

/- THE SECOND FORM. 'bulk': how many values and letters a reading holds, each counted each time it is reached (what is shared counts as often as it is met; a slice's spare places count too). A statement '..UptoSaid' is the law's where the arguments, and the package variables that the reading takes, are together of bulk at most 1048576: NARROWER than '..Said'. Prove '..Said' where nothing that the law and all that it calls make is longer than what came in: it says more and counts as full. Else prove '..UptoSaid'. A law counts once. -/
mutual
def uptoBulk {H : Type} : DataW H → Nat
  | .lit (.string bytes) => bytes.length + 1
  | .lit _ => 1
  | .nil => 1
  | .ptr d => uptoBulk d + 1
  | .slice elems spare => uptoBulkAll elems + uptoBulkAll spare + 1
  | .agg parts => uptoBulkAll parts + 1
  | .iface _ d => uptoBulk d + 1
  | .map entries => uptoBulkEntries entries + 1
  | .held _ => 1
def uptoBulkAll {H : Type} : List (DataW H) → Nat
  | [] => 0
  | d :: r => uptoBulk d + uptoBulkAll r
def uptoBulkEntries {H : Type} : List (Lit × DataW H) → Nat
  | [] => 0
  | x :: r => uptoBulkEntry x + uptoBulkEntries r
def uptoBulkEntry {H : Type} : Lit × DataW H → Nat
  | (.string bytes, d) => bytes.length + uptoBulk d + 1
  | (_, d) => uptoBulk d + 1
 end
def uptoSmall : (H : Type) → List (DataW H) → Bool := fun _ ds => decide (uptoBulkAll ds ≤ 1048576)
def OpenSpec.upto (s : _root_.Go.ChangeSpec) : _root_.Go.OpenSpec := { _root_.Go.OpenSpec.ofChange s with cond := some uptoSmall }

/-- 'milepostlaw17.NetDrains', WHERE WHAT IT READS IS OF BULK AT MOST 1048576: true; the input reads as it did. -/
def netDrainsUptoRow : OpenClaim := { program := "ytpocidlfjakmlaa", sum := "8630e11c9b91c610fe2fcf699e45e71d83cf6dd937e28d2fa32fb66761c32bdc", func := "milepost/milepostlaw17.NetDrains", spec := "netDrains", apart := false, narrowed := true }
def NetDrainsUptoSaid : Prop := netDrainsUptoRow.holds Try.pinned (OpenSpec.upto netDrainsSpec)

/-- 'milepostlaw17.NetPlays', WHERE WHAT IT READS IS OF BULK AT MOST 1048576: true; the input reads as it did. -/
def netPlaysUptoRow : OpenClaim := { program := "ytpocidlfjakmlaa", sum := "8630e11c9b91c610fe2fcf699e45e71d83cf6dd937e28d2fa32fb66761c32bdc", func := "milepost/milepostlaw17.NetPlays", spec := "netPlays", apart := false, narrowed := true }
def NetPlaysUptoSaid : Prop := netPlaysUptoRow.holds Try.pinned (OpenSpec.upto netPlaysSpec)

/-- 'milepostlaw17.NetBounds', WHERE WHAT IT READS IS OF BULK AT MOST 1048576: true; the input reads as it did. -/
def netBoundsUptoRow : OpenClaim := { program := "ytpocidlfjakmlaa", sum := "8630e11c9b91c610fe2fcf699e45e71d83cf6dd937e28d2fa32fb66761c32bdc", func := "milepost/milepostlaw17.NetBounds", spec := "netBounds", apart := false, narrowed := true }
def NetBoundsUptoSaid : Prop := netBoundsUptoRow.holds Try.pinned (OpenSpec.upto netBoundsSpec)

/-- 'milepostlaw17.NetNil', WHERE WHAT IT READS IS OF BULK AT MOST 1048576: true; the input reads as it did. -/
def netNilUptoRow : OpenClaim := { program := "ytpocidlfjakmlaa", sum := "8630e11c9b91c610fe2fcf699e45e71d83cf6dd937e28d2fa32fb66761c32bdc", func := "milepost/milepostlaw17.NetNil", spec := "netNil", apart := false, narrowed := true }
def NetNilUptoSaid : Prop := netNilUptoRow.holds Try.pinned (OpenSpec.upto netNilSpec)

/-- 'milepostlaw21.RollSafe', WHERE WHAT IT READS IS OF BULK AT MOST 1048576: true; the input reads as it did. -/
def rollSafeUptoRow : OpenClaim := { program := "ytpocidlfjakmlaa", sum := "8630e11c9b91c610fe2fcf699e45e71d83cf6dd937e28d2fa32fb66761c32bdc", func := "milepost/milepostlaw21.RollSafe", spec := "rollSafe", apart := false, narrowed := true }
def RollSafeUptoSaid : Prop := rollSafeUptoRow.holds Try.pinned (OpenSpec.upto rollSafeSpec)

/-- 'milepostlaw21.RollLives', WHERE WHAT IT READS IS OF BULK AT MOST 1048576: true; the input reads as it did. -/
def rollLivesUptoRow : OpenClaim := { program := "ytpocidlfjakmlaa", sum := "8630e11c9b91c610fe2fcf699e45e71d83cf6dd937e28d2fa32fb66761c32bdc", func := "milepost/milepostlaw21.RollLives", spec := "rollLives", apart := false, narrowed := true }
def RollLivesUptoSaid : Prop := rollLivesUptoRow.holds Try.pinned (OpenSpec.upto rollLivesSpec)

/-- 'milepostlaw21.RollPlays', WHERE WHAT IT READS IS OF BULK AT MOST 1048576: true; the input reads as it did. -/
def rollPlaysUptoRow : OpenClaim := { program := "ytpocidlfjakmlaa", sum := "8630e11c9b91c610fe2fcf699e45e71d83cf6dd937e28d2fa32fb66761c32bdc", func := "milepost/milepostlaw21.RollPlays", spec := "rollPlays", apart := false, narrowed := true }
def RollPlaysUptoSaid : Prop := rollPlaysUptoRow.holds Try.pinned (OpenSpec.upto rollPlaysSpec)

/-- 'milepostlaw21.RollNil', WHERE WHAT IT READS IS OF BULK AT MOST 1048576: true; the input reads as it did. -/
def rollNilUptoRow : OpenClaim := { program := "ytpocidlfjakmlaa", sum := "8630e11c9b91c610fe2fcf699e45e71d83cf6dd937e28d2fa32fb66761c32bdc", func := "milepost/milepostlaw21.RollNil", spec := "rollNil", apart := false, narrowed := true }
def RollNilUptoSaid : Prop := rollNilUptoRow.holds Try.pinned (OpenSpec.upto rollNilSpec)

end Rows
end Go.Proofs.Ytpocidlfjakmlaa
