/-
  No cell of these rows narrows 'for every input' (looked for: loops, veiled, ifaces, maps, wideKeys, modest, calm, conditions, laid).
  DERIVED. THE GIVEN ROWS OF THIS SEAT. 7 by the template 'for every input the law returns true; each argument reads behind the call as it read before'; 0 by the template 'total and deterministic' (their statements: YtpoffkkkkieniaaTotals.lean).
  GIVEN WITH THE SEED: the statements are not yours to turn. If you find one false, say at which input.
  Laid BY PROGRAM, IN A SANDBOX (cutbox-rows.mjs): the forced cells as the released guide's own fill.sh prints them over the translation 5e5a228609c1b886… (all of the seat's roots in one cut). By AI agents, Wed Nov 11 2026. No macro, syntax, notation, axiom, sorry.
-/
import Derived.Test.YtpoffkkkkieniaaChecked
import GoSem.Claim
import GoSem.ClaimJoined
import GoSem.ClaimMapViews
import Derived.JoinedTies
import Derived.KernelRfl
namespace Go.Proofs.Ytpoffkkkkieniaa
/- THE CELL 'sum', in the pinned program and in every row, IS THE sha256 OF THE DUMP (.gsa) THAT YtpoffkkkkieniaaProg.lean LOADS. Nothing in Lean hashes anything: it is a label: what it is worth is what the hold of that sum in a sandbox is worth. -/
noncomputable def Try.pinned : Pinned := { name := "ytpoffkkkkieniaa", sum := "5e5a228609c1b88674da8a3e44511c9a3c9ce144e51564ea369f028a9194d42a", checked := Try.checked }
namespace Rows
def none {H : Type} : Left H := { results := [], args := [] }

/-- 'arenanetlaw22.InputqueuePlays': WHATEVER THE INPUT: true; the input reads as it did. -/
def inputqueuePlaysSpec : ChangeSpec := { name := "inputqueuePlays", fn := fun _ => fun
  | [d1, d2, d3] => { results := [.lit (.bool true)], args := [d1, d2, d3] }
  | _ => none }
def inputqueuePlaysRow : OpenClaim := { program := "ytpoffkkkkieniaa", sum := "5e5a228609c1b88674da8a3e44511c9a3c9ce144e51564ea369f028a9194d42a", func := "arenanet/arenanetlaw22.InputqueuePlays", spec := "inputqueuePlays", apart := false }
def InputqueuePlaysSaid : Prop := inputqueuePlaysRow.holds Try.pinned (OpenSpec.ofChange inputqueuePlaysSpec)

/-- ITS FALSE NEIGHBOUR: 'it returns false'. Refute it at one input. -/
def inputqueuePlaysWrong : ChangeSpec := { name := "inputqueuePlays", fn := fun _ => fun
  | [d1, d2, d3] => { results := [.lit (.bool false)], args := [d1, d2, d3] }
  | _ => none }
def InputqueuePlaysWrongFalsely : Prop := inputqueuePlaysRow.holds Try.pinned (OpenSpec.ofChange inputqueuePlaysWrong)

/-- 'arenanetlaw22.InputqueueRaw': WHATEVER THE INPUT: true; the input reads as it did. -/
def inputqueueRawSpec : ChangeSpec := { name := "inputqueueRaw", fn := fun _ => fun
  | [d1, d2, d3, d4, d5] => { results := [.lit (.bool true)], args := [d1, d2, d3, d4, d5] }
  | _ => none }
def inputqueueRawRow : OpenClaim := { program := "ytpoffkkkkieniaa", sum := "5e5a228609c1b88674da8a3e44511c9a3c9ce144e51564ea369f028a9194d42a", func := "arenanet/arenanetlaw22.InputqueueRaw", spec := "inputqueueRaw", apart := false }
def InputqueueRawSaid : Prop := inputqueueRawRow.holds Try.pinned (OpenSpec.ofChange inputqueueRawSpec)

/-- ITS FALSE NEIGHBOUR: 'it returns false'. Refute it at one input. -/
def inputqueueRawWrong : ChangeSpec := { name := "inputqueueRaw", fn := fun _ => fun
  | [d1, d2, d3, d4, d5] => { results := [.lit (.bool false)], args := [d1, d2, d3, d4, d5] }
  | _ => none }
def InputqueueRawWrongFalsely : Prop := inputqueueRawRow.holds Try.pinned (OpenSpec.ofChange inputqueueRawWrong)

/-- 'arenanetlaw22.InputqueueDeadline': WHATEVER THE INPUT: true; the input reads as it did. -/
def inputqueueDeadlineSpec : ChangeSpec := { name := "inputqueueDeadline", fn := fun _ => fun
  | [d1, d2, d3] => { results := [.lit (.bool true)], args := [d1, d2, d3] }
  | _ => none }
def inputqueueDeadlineRow : OpenClaim := { program := "ytpoffkkkkieniaa", sum := "5e5a228609c1b88674da8a3e44511c9a3c9ce144e51564ea369f028a9194d42a", func := "arenanet/arenanetlaw22.InputqueueDeadline", spec := "inputqueueDeadline", apart := false }
def InputqueueDeadlineSaid : Prop := inputqueueDeadlineRow.holds Try.pinned (OpenSpec.ofChange inputqueueDeadlineSpec)

/-- ITS FALSE NEIGHBOUR: 'it returns false'. Refute it at one input. -/
def inputqueueDeadlineWrong : ChangeSpec := { name := "inputqueueDeadline", fn := fun _ => fun
  | [d1, d2, d3] => { results := [.lit (.bool false)], args := [d1, d2, d3] }
  | _ => none }
def InputqueueDeadlineWrongFalsely : Prop := inputqueueDeadlineRow.holds Try.pinned (OpenSpec.ofChange inputqueueDeadlineWrong)

/-- 'arenanetlaw22.InputqueueCounts': WHATEVER THE INPUT: true; the input reads as it did. -/
def inputqueueCountsSpec : ChangeSpec := { name := "inputqueueCounts", fn := fun _ => fun
  | [d1, d2, d3] => { results := [.lit (.bool true)], args := [d1, d2, d3] }
  | _ => none }
def inputqueueCountsRow : OpenClaim := { program := "ytpoffkkkkieniaa", sum := "5e5a228609c1b88674da8a3e44511c9a3c9ce144e51564ea369f028a9194d42a", func := "arenanet/arenanetlaw22.InputqueueCounts", spec := "inputqueueCounts", apart := false }
def InputqueueCountsSaid : Prop := inputqueueCountsRow.holds Try.pinned (OpenSpec.ofChange inputqueueCountsSpec)

/-- ITS FALSE NEIGHBOUR: 'it returns false'. Refute it at one input. -/
def inputqueueCountsWrong : ChangeSpec := { name := "inputqueueCounts", fn := fun _ => fun
  | [d1, d2, d3] => { results := [.lit (.bool false)], args := [d1, d2, d3] }
  | _ => none }
def InputqueueCountsWrongFalsely : Prop := inputqueueCountsRow.holds Try.pinned (OpenSpec.ofChange inputqueueCountsWrong)

/-- 'arenanetlaw22.InputqueueIndependent': WHATEVER THE INPUT: true; the input reads as it did. -/
def inputqueueIndependentSpec : ChangeSpec := { name := "inputqueueIndependent", fn := fun _ => fun
  | [d1, d2, d3, d4, d5] => { results := [.lit (.bool true)], args := [d1, d2, d3, d4, d5] }
  | _ => none }
def inputqueueIndependentRow : OpenClaim := { program := "ytpoffkkkkieniaa", sum := "5e5a228609c1b88674da8a3e44511c9a3c9ce144e51564ea369f028a9194d42a", func := "arenanet/arenanetlaw22.InputqueueIndependent", spec := "inputqueueIndependent", apart := false }
def InputqueueIndependentSaid : Prop := inputqueueIndependentRow.holds Try.pinned (OpenSpec.ofChange inputqueueIndependentSpec)

/-- ITS FALSE NEIGHBOUR: 'it returns false'. Refute it at one input. -/
def inputqueueIndependentWrong : ChangeSpec := { name := "inputqueueIndependent", fn := fun _ => fun
  | [d1, d2, d3, d4, d5] => { results := [.lit (.bool false)], args := [d1, d2, d3, d4, d5] }
  | _ => none }
def InputqueueIndependentWrongFalsely : Prop := inputqueueIndependentRow.holds Try.pinned (OpenSpec.ofChange inputqueueIndependentWrong)

/-- 'arenanetlaw22.InputqueueOrder': WHATEVER THE INPUT: true; the input reads as it did. -/
def inputqueueOrderSpec : ChangeSpec := { name := "inputqueueOrder", fn := fun _ => fun
  | [d1, d2, d3] => { results := [.lit (.bool true)], args := [d1, d2, d3] }
  | _ => none }
def inputqueueOrderRow : OpenClaim := { program := "ytpoffkkkkieniaa", sum := "5e5a228609c1b88674da8a3e44511c9a3c9ce144e51564ea369f028a9194d42a", func := "arenanet/arenanetlaw22.InputqueueOrder", spec := "inputqueueOrder", apart := false }
def InputqueueOrderSaid : Prop := inputqueueOrderRow.holds Try.pinned (OpenSpec.ofChange inputqueueOrderSpec)

/-- ITS FALSE NEIGHBOUR: 'it returns false'. Refute it at one input. -/
def inputqueueOrderWrong : ChangeSpec := { name := "inputqueueOrder", fn := fun _ => fun
  | [d1, d2, d3] => { results := [.lit (.bool false)], args := [d1, d2, d3] }
  | _ => none }
def InputqueueOrderWrongFalsely : Prop := inputqueueOrderRow.holds Try.pinned (OpenSpec.ofChange inputqueueOrderWrong)

/-- 'arenanetlaw22.InputqueueEnds': WHATEVER THE INPUT: true; the input reads as it did. -/
def inputqueueEndsSpec : ChangeSpec := { name := "inputqueueEnds", fn := fun _ => fun
  | [d1, d2] => { results := [.lit (.bool true)], args := [d1, d2] }
  | _ => none }
def inputqueueEndsRow : OpenClaim := { program := "ytpoffkkkkieniaa", sum := "5e5a228609c1b88674da8a3e44511c9a3c9ce144e51564ea369f028a9194d42a", func := "arenanet/arenanetlaw22.InputqueueEnds", spec := "inputqueueEnds", apart := false }
def InputqueueEndsSaid : Prop := inputqueueEndsRow.holds Try.pinned (OpenSpec.ofChange inputqueueEndsSpec)

/-- ITS FALSE NEIGHBOUR: 'it returns false'. Refute it at one input. -/
def inputqueueEndsWrong : ChangeSpec := { name := "inputqueueEnds", fn := fun _ => fun
  | [d1, d2] => { results := [.lit (.bool false)], args := [d1, d2] }
  | _ => none }
def InputqueueEndsWrongFalsely : Prop := inputqueueEndsRow.holds Try.pinned (OpenSpec.ofChange inputqueueEndsWrong)

/- THE SECOND FORM. 'bulk': how many values and letters a reading holds, each counted each time it is reached (what is shared counts as often as it is met; a slice's spare places count too). A statement '..UptoSaid' is the law's where the arguments, and the package variables that the reading takes, are together of bulk at most 1048576: NARROWER than '..Said'. Prove '..Said' where nothing that the law and all that it calls make is longer than what came in: it says more and counts as full. Else prove '..UptoSaid'. A law counts once. -/
mutual
def uptoBulk {H : Type} : DataW H → Nat
  | .lit (.string bytes) => bytes.length + 1
  | .lit _ => 1
  | .nil => 1
  | .ptr d => uptoBulk d + 1
  | .slice elems spare => uptoBulkAll elems + uptoBulkAll spare + 1
  | .agg parts => uptoBulkAll parts + 1
  | .iface _ d => uptoBulk d + 1
  | .map entries => uptoBulkEntries entries + 1
  | .held _ => 1
def uptoBulkAll {H : Type} : List (DataW H) → Nat
  | [] => 0
  | d :: r => uptoBulk d + uptoBulkAll r
def uptoBulkEntries {H : Type} : List (Lit × DataW H) → Nat
  | [] => 0
  | x :: r => uptoBulkEntry x + uptoBulkEntries r
def uptoBulkEntry {H : Type} : Lit × DataW H → Nat
  | (.string bytes, d) => bytes.length + uptoBulk d + 1
  | (_, d) => uptoBulk d + 1
 end
def uptoSmall : (H : Type) → List (DataW H) → Bool := fun _ ds => decide (uptoBulkAll ds ≤ 1048576)
def OpenSpec.upto (s : _root_.Go.ChangeSpec) : _root_.Go.OpenSpec := { _root_.Go.OpenSpec.ofChange s with cond := some uptoSmall }

/-- 'arenanetlaw22.InputqueuePlays', WHERE WHAT IT READS IS OF BULK AT MOST 1048576: true; the input reads as it did. -/
def inputqueuePlaysUptoRow : OpenClaim := { program := "ytpoffkkkkieniaa", sum := "5e5a228609c1b88674da8a3e44511c9a3c9ce144e51564ea369f028a9194d42a", func := "arenanet/arenanetlaw22.InputqueuePlays", spec := "inputqueuePlays", apart := false, narrowed := true }
def InputqueuePlaysUptoSaid : Prop := inputqueuePlaysUptoRow.holds Try.pinned (OpenSpec.upto inputqueuePlaysSpec)

/-- 'arenanetlaw22.InputqueueRaw', WHERE WHAT IT READS IS OF BULK AT MOST 1048576: true; the input reads as it did. -/
def inputqueueRawUptoRow : OpenClaim := { program := "ytpoffkkkkieniaa", sum := "5e5a228609c1b88674da8a3e44511c9a3c9ce144e51564ea369f028a9194d42a", func := "arenanet/arenanetlaw22.InputqueueRaw", spec := "inputqueueRaw", apart := false, narrowed := true }
def InputqueueRawUptoSaid : Prop := inputqueueRawUptoRow.holds Try.pinned (OpenSpec.upto inputqueueRawSpec)

/-- 'arenanetlaw22.InputqueueDeadline', WHERE WHAT IT READS IS OF BULK AT MOST 1048576: true; the input reads as it did. -/
def inputqueueDeadlineUptoRow : OpenClaim := { program := "ytpoffkkkkieniaa", sum := "5e5a228609c1b88674da8a3e44511c9a3c9ce144e51564ea369f028a9194d42a", func := "arenanet/arenanetlaw22.InputqueueDeadline", spec := "inputqueueDeadline", apart := false, narrowed := true }
def InputqueueDeadlineUptoSaid : Prop := inputqueueDeadlineUptoRow.holds Try.pinned (OpenSpec.upto inputqueueDeadlineSpec)

/-- 'arenanetlaw22.InputqueueCounts', WHERE WHAT IT READS IS OF BULK AT MOST 1048576: true; the input reads as it did. -/
def inputqueueCountsUptoRow : OpenClaim := { program := "ytpoffkkkkieniaa", sum := "5e5a228609c1b88674da8a3e44511c9a3c9ce144e51564ea369f028a9194d42a", func := "arenanet/arenanetlaw22.InputqueueCounts", spec := "inputqueueCounts", apart := false, narrowed := true }
def InputqueueCountsUptoSaid : Prop := inputqueueCountsUptoRow.holds Try.pinned (OpenSpec.upto inputqueueCountsSpec)

/-- 'arenanetlaw22.InputqueueIndependent', WHERE WHAT IT READS IS OF BULK AT MOST 1048576: true; the input reads as it did. -/
def inputqueueIndependentUptoRow : OpenClaim := { program := "ytpoffkkkkieniaa", sum := "5e5a228609c1b88674da8a3e44511c9a3c9ce144e51564ea369f028a9194d42a", func := "arenanet/arenanetlaw22.InputqueueIndependent", spec := "inputqueueIndependent", apart := false, narrowed := true }
def InputqueueIndependentUptoSaid : Prop := inputqueueIndependentUptoRow.holds Try.pinned (OpenSpec.upto inputqueueIndependentSpec)

/-- 'arenanetlaw22.InputqueueOrder', WHERE WHAT IT READS IS OF BULK AT MOST 1048576: true; the input reads as it did. -/
def inputqueueOrderUptoRow : OpenClaim := { program := "ytpoffkkkkieniaa", sum := "5e5a228609c1b88674da8a3e44511c9a3c9ce144e51564ea369f028a9194d42a", func := "arenanet/arenanetlaw22.InputqueueOrder", spec := "inputqueueOrder", apart := false, narrowed := true }
def InputqueueOrderUptoSaid : Prop := inputqueueOrderUptoRow.holds Try.pinned (OpenSpec.upto inputqueueOrderSpec)

/-- 'arenanetlaw22.InputqueueEnds', WHERE WHAT IT READS IS OF BULK AT MOST 1048576: true; the input reads as it did. -/
def inputqueueEndsUptoRow : OpenClaim := { program := "ytpoffkkkkieniaa", sum := "5e5a228609c1b88674da8a3e44511c9a3c9ce144e51564ea369f028a9194d42a", func := "arenanet/arenanetlaw22.InputqueueEnds", spec := "inputqueueEnds", apart := false, narrowed := true }
def InputqueueEndsUptoSaid : Prop := inputqueueEndsUptoRow.holds Try.pinned (OpenSpec.upto inputqueueEndsSpec)

end Rows
end Go.Proofs.Ytpoffkkkkieniaa
