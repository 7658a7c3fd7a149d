/-
  No cell of these rows narrows 'for every input' (looked for: loops, veiled, ifaces, maps, wideKeys, modest, calm, conditions, laid).
  DERIVED. THE GIVEN ROWS OF THIS SEAT. 5 by the template 'for every input the law returns true; each argument reads behind the call as it read before'; 0 by the template 'total and deterministic' (their statements: YtilpffolldegbaaTotals.lean).
  GIVEN WITH THE SEED: the statements are not yours to turn. If you find one false, say at which input.
  Laid BY PROGRAM, IN A SANDBOX (cutbox-rows.mjs): the forced cells as the released guide's own fill.sh prints them over the translation 13eede396a6b2b56… (all of the seat's roots in one cut). By AI agents, Wed Nov 11 2026. No macro, syntax, notation, axiom, sorry.
-/
import Derived.Test.YtilpffolldegbaaChecked
import GoSem.Claim
import GoSem.ClaimJoined
import GoSem.ClaimMapViews
import Derived.JoinedTies
import Derived.KernelRfl
namespace Go.Proofs.Ytilpffolldegbaa
/- THE CELL 'sum', in the pinned program and in every row, IS THE sha256 OF THE DUMP (.gsa) THAT YtilpffolldegbaaProg.lean LOADS. Nothing in Lean hashes anything: it is a label: what it is worth is what the hold of that sum in a sandbox is worth. -/
noncomputable def Try.pinned : Pinned := { name := "ytilpffolldegbaa", sum := "13eede396a6b2b56fe1a9da5e726b5a8be448d6f725ab7875da1bfda6831e30f", checked := Try.checked }
namespace Rows
def none {H : Type} : Left H := { results := [], args := [] }

/-- 'flotillalaw15.BagTwice': WHATEVER THE INPUT: true; the input reads as it did. -/
def bagTwiceSpec : ChangeSpec := { name := "bagTwice", fn := fun _ => fun
  | [d1, d2, d3] => { results := [.lit (.bool true)], args := [d1, d2, d3] }
  | _ => none }
def bagTwiceRow : OpenClaim := { program := "ytilpffolldegbaa", sum := "13eede396a6b2b56fe1a9da5e726b5a8be448d6f725ab7875da1bfda6831e30f", func := "flotilla/flotillalaw15.BagTwice", spec := "bagTwice", apart := false }
def BagTwiceSaid : Prop := bagTwiceRow.holds Try.pinned (OpenSpec.ofChange bagTwiceSpec)

/-- ITS FALSE NEIGHBOUR: 'it returns false'. Refute it at one input. -/
def bagTwiceWrong : ChangeSpec := { name := "bagTwice", fn := fun _ => fun
  | [d1, d2, d3] => { results := [.lit (.bool false)], args := [d1, d2, d3] }
  | _ => none }
def BagTwiceWrongFalsely : Prop := bagTwiceRow.holds Try.pinned (OpenSpec.ofChange bagTwiceWrong)

/-- 'flotillalaw15.BagTurned': WHATEVER THE INPUT: true; the input reads as it did. -/
def bagTurnedSpec : ChangeSpec := { name := "bagTurned", fn := fun _ => fun
  | [d1, d2] => { results := [.lit (.bool true)], args := [d1, d2] }
  | _ => none }
def bagTurnedRow : OpenClaim := { program := "ytilpffolldegbaa", sum := "13eede396a6b2b56fe1a9da5e726b5a8be448d6f725ab7875da1bfda6831e30f", func := "flotilla/flotillalaw15.BagTurned", spec := "bagTurned", apart := false }
def BagTurnedSaid : Prop := bagTurnedRow.holds Try.pinned (OpenSpec.ofChange bagTurnedSpec)

/-- ITS FALSE NEIGHBOUR: 'it returns false'. Refute it at one input. -/
def bagTurnedWrong : ChangeSpec := { name := "bagTurned", fn := fun _ => fun
  | [d1, d2] => { results := [.lit (.bool false)], args := [d1, d2] }
  | _ => none }
def BagTurnedWrongFalsely : Prop := bagTurnedRow.holds Try.pinned (OpenSpec.ofChange bagTurnedWrong)

/-- 'flotillalaw15.BagCounts': WHATEVER THE INPUT: true; the input reads as it did. -/
def bagCountsSpec : ChangeSpec := { name := "bagCounts", fn := fun _ => fun
  | [d1, d2] => { results := [.lit (.bool true)], args := [d1, d2] }
  | _ => none }
def bagCountsRow : OpenClaim := { program := "ytilpffolldegbaa", sum := "13eede396a6b2b56fe1a9da5e726b5a8be448d6f725ab7875da1bfda6831e30f", func := "flotilla/flotillalaw15.BagCounts", spec := "bagCounts", apart := false }
def BagCountsSaid : Prop := bagCountsRow.holds Try.pinned (OpenSpec.ofChange bagCountsSpec)

/-- ITS FALSE NEIGHBOUR: 'it returns false'. Refute it at one input. -/
def bagCountsWrong : ChangeSpec := { name := "bagCounts", fn := fun _ => fun
  | [d1, d2] => { results := [.lit (.bool false)], args := [d1, d2] }
  | _ => none }
def BagCountsWrongFalsely : Prop := bagCountsRow.holds Try.pinned (OpenSpec.ofChange bagCountsWrong)

/-- 'flotillalaw15.BagApart': WHATEVER THE INPUT: true; the input reads as it did. -/
def bagApartSpec : ChangeSpec := { name := "bagApart", fn := fun _ => fun
  | [d] => { results := [.lit (.bool true)], args := [d] }
  | _ => none }
def bagApartRow : OpenClaim := { program := "ytilpffolldegbaa", sum := "13eede396a6b2b56fe1a9da5e726b5a8be448d6f725ab7875da1bfda6831e30f", func := "flotilla/flotillalaw15.BagApart", spec := "bagApart", apart := false }
def BagApartSaid : Prop := bagApartRow.holds Try.pinned (OpenSpec.ofChange bagApartSpec)

/-- ITS FALSE NEIGHBOUR: 'it returns false'. Refute it at one input. -/
def bagApartWrong : ChangeSpec := { name := "bagApart", fn := fun _ => fun
  | [d] => { results := [.lit (.bool false)], args := [d] }
  | _ => none }
def BagApartWrongFalsely : Prop := bagApartRow.holds Try.pinned (OpenSpec.ofChange bagApartWrong)

/-- 'flotillalaw15.BagScript': WHATEVER THE INPUT: true; the input reads as it did. -/
def bagScriptSpec : ChangeSpec := { name := "bagScript", fn := fun _ => fun
  | [d1, d2, d3] => { results := [.lit (.bool true)], args := [d1, d2, d3] }
  | _ => none }
def bagScriptRow : OpenClaim := { program := "ytilpffolldegbaa", sum := "13eede396a6b2b56fe1a9da5e726b5a8be448d6f725ab7875da1bfda6831e30f", func := "flotilla/flotillalaw15.BagScript", spec := "bagScript", apart := false }
def BagScriptSaid : Prop := bagScriptRow.holds Try.pinned (OpenSpec.ofChange bagScriptSpec)

/-- ITS FALSE NEIGHBOUR: 'it returns false'. Refute it at one input. -/
def bagScriptWrong : ChangeSpec := { name := "bagScript", fn := fun _ => fun
  | [d1, d2, d3] => { results := [.lit (.bool false)], args := [d1, d2, d3] }
  | _ => none }
def BagScriptWrongFalsely : Prop := bagScriptRow.holds Try.pinned (OpenSpec.ofChange bagScriptWrong)

/- THE SECOND FORM. 'bulk': how many values and letters a reading holds, each counted each time it is reached (what is shared counts as often as it is met; a slice's spare places count too). A statement '..UptoSaid' is the law's where the arguments, and the package variables that the reading takes, are together of bulk at most 1048576: NARROWER than '..Said'. Prove '..Said' where nothing that the law and all that it calls make is longer than what came in: it says more and counts as full. Else prove '..UptoSaid'. A law counts once. -/
mutual
def uptoBulk {H : Type} : DataW H → Nat
  | .lit (.string bytes) => bytes.length + 1
  | .lit _ => 1
  | .nil => 1
  | .ptr d => uptoBulk d + 1
  | .slice elems spare => uptoBulkAll elems + uptoBulkAll spare + 1
  | .agg parts => uptoBulkAll parts + 1
  | .iface _ d => uptoBulk d + 1
  | .map entries => uptoBulkEntries entries + 1
  | .held _ => 1
def uptoBulkAll {H : Type} : List (DataW H) → Nat
  | [] => 0
  | d :: r => uptoBulk d + uptoBulkAll r
def uptoBulkEntries {H : Type} : List (Lit × DataW H) → Nat
  | [] => 0
  | x :: r => uptoBulkEntry x + uptoBulkEntries r
def uptoBulkEntry {H : Type} : Lit × DataW H → Nat
  | (.string bytes, d) => bytes.length + uptoBulk d + 1
  | (_, d) => uptoBulk d + 1
 end
def uptoSmall : (H : Type) → List (DataW H) → Bool := fun _ ds => decide (uptoBulkAll ds ≤ 1048576)
def OpenSpec.upto (s : _root_.Go.ChangeSpec) : _root_.Go.OpenSpec := { _root_.Go.OpenSpec.ofChange s with cond := some uptoSmall }

/-- 'flotillalaw15.BagTwice', WHERE WHAT IT READS IS OF BULK AT MOST 1048576: true; the input reads as it did. -/
def bagTwiceUptoRow : OpenClaim := { program := "ytilpffolldegbaa", sum := "13eede396a6b2b56fe1a9da5e726b5a8be448d6f725ab7875da1bfda6831e30f", func := "flotilla/flotillalaw15.BagTwice", spec := "bagTwice", apart := false, narrowed := true }
def BagTwiceUptoSaid : Prop := bagTwiceUptoRow.holds Try.pinned (OpenSpec.upto bagTwiceSpec)

/-- 'flotillalaw15.BagTurned', WHERE WHAT IT READS IS OF BULK AT MOST 1048576: true; the input reads as it did. -/
def bagTurnedUptoRow : OpenClaim := { program := "ytilpffolldegbaa", sum := "13eede396a6b2b56fe1a9da5e726b5a8be448d6f725ab7875da1bfda6831e30f", func := "flotilla/flotillalaw15.BagTurned", spec := "bagTurned", apart := false, narrowed := true }
def BagTurnedUptoSaid : Prop := bagTurnedUptoRow.holds Try.pinned (OpenSpec.upto bagTurnedSpec)

/-- 'flotillalaw15.BagCounts', WHERE WHAT IT READS IS OF BULK AT MOST 1048576: true; the input reads as it did. -/
def bagCountsUptoRow : OpenClaim := { program := "ytilpffolldegbaa", sum := "13eede396a6b2b56fe1a9da5e726b5a8be448d6f725ab7875da1bfda6831e30f", func := "flotilla/flotillalaw15.BagCounts", spec := "bagCounts", apart := false, narrowed := true }
def BagCountsUptoSaid : Prop := bagCountsUptoRow.holds Try.pinned (OpenSpec.upto bagCountsSpec)

/-- 'flotillalaw15.BagApart', WHERE WHAT IT READS IS OF BULK AT MOST 1048576: true; the input reads as it did. -/
def bagApartUptoRow : OpenClaim := { program := "ytilpffolldegbaa", sum := "13eede396a6b2b56fe1a9da5e726b5a8be448d6f725ab7875da1bfda6831e30f", func := "flotilla/flotillalaw15.BagApart", spec := "bagApart", apart := false, narrowed := true }
def BagApartUptoSaid : Prop := bagApartUptoRow.holds Try.pinned (OpenSpec.upto bagApartSpec)

/-- 'flotillalaw15.BagScript', WHERE WHAT IT READS IS OF BULK AT MOST 1048576: true; the input reads as it did. -/
def bagScriptUptoRow : OpenClaim := { program := "ytilpffolldegbaa", sum := "13eede396a6b2b56fe1a9da5e726b5a8be448d6f725ab7875da1bfda6831e30f", func := "flotilla/flotillalaw15.BagScript", spec := "bagScript", apart := false, narrowed := true }
def BagScriptUptoSaid : Prop := bagScriptUptoRow.holds Try.pinned (OpenSpec.upto bagScriptSpec)

end Rows
end Go.Proofs.Ytilpffolldegbaa
