/-
  No cell of these rows narrows 'for every input' (looked for: loops, veiled, ifaces, maps, wideKeys, modest, calm, conditions, laid).
  DERIVED. THE GIVEN ROWS OF THIS SEAT. 6 by the template 'for every input the law returns true; each argument reads behind the call as it read before'; 0 by the template 'total and deterministic' (their statements: YtkgamiojoekegaaTotals.lean).
  GIVEN WITH THE SEED: the statements are not yours to turn. If you find one false, say at which input.
  Laid BY PROGRAM, IN A SANDBOX (cutbox-rows.mjs): the forced cells as the released guide's own fill.sh prints them over the translation e58b70b71e942749… (all of the seat's roots in one cut). By AI agents, Wed Nov 11 2026. No macro, syntax, notation, axiom, sorry.
-/
import Derived.Test.YtkgamiojoekegaaChecked
import GoSem.Claim
import GoSem.ClaimJoined
import GoSem.ClaimMapViews
import Derived.JoinedTies
import Derived.KernelRfl
namespace Go.Proofs.Ytkgamiojoekegaa
/- THE CELL 'sum', in the pinned program and in every row, IS THE sha256 OF THE DUMP (.gsa) THAT YtkgamiojoekegaaProg.lean LOADS. Nothing in Lean hashes anything: it is a label: what it is worth is what the hold of that sum in a sandbox is worth. -/
noncomputable def Try.pinned : Pinned := { name := "ytkgamiojoekegaa", sum := "e58b70b71e94274954dfdbf434b9e4911fdff78df745629da33ee9973f0db17a", checked := Try.checked }
namespace Rows
def none {H : Type} : Left H := { results := [], args := [] }

/-- 'flotillalaw12.ChooseNames': WHATEVER THE INPUT: true; the input reads as it did. -/
def chooseNamesSpec : ChangeSpec := { name := "chooseNames", fn := fun _ => fun
  | [] => { results := [.lit (.bool true)], args := [] }
  | _ => none }
def chooseNamesRow : OpenClaim := { program := "ytkgamiojoekegaa", sum := "e58b70b71e94274954dfdbf434b9e4911fdff78df745629da33ee9973f0db17a", func := "flotilla/flotillalaw12.ChooseNames", spec := "chooseNames", apart := false }
def ChooseNamesSaid : Prop := chooseNamesRow.holds Try.pinned (OpenSpec.ofChange chooseNamesSpec)

/-- ITS FALSE NEIGHBOUR: 'it returns false'. Refute it at one input. -/
def chooseNamesWrong : ChangeSpec := { name := "chooseNames", fn := fun _ => fun
  | [] => { results := [.lit (.bool false)], args := [] }
  | _ => none }
def ChooseNamesWrongFalsely : Prop := chooseNamesRow.holds Try.pinned (OpenSpec.ofChange chooseNamesWrong)

/-- 'flotillalaw16.WordsNames': WHATEVER THE INPUT: true; the input reads as it did. -/
def wordsNamesSpec : ChangeSpec := { name := "wordsNames", fn := fun _ => fun
  | [] => { results := [.lit (.bool true)], args := [] }
  | _ => none }
def wordsNamesRow : OpenClaim := { program := "ytkgamiojoekegaa", sum := "e58b70b71e94274954dfdbf434b9e4911fdff78df745629da33ee9973f0db17a", func := "flotilla/flotillalaw16.WordsNames", spec := "wordsNames", apart := false }
def WordsNamesSaid : Prop := wordsNamesRow.holds Try.pinned (OpenSpec.ofChange wordsNamesSpec)

/-- ITS FALSE NEIGHBOUR: 'it returns false'. Refute it at one input. -/
def wordsNamesWrong : ChangeSpec := { name := "wordsNames", fn := fun _ => fun
  | [] => { results := [.lit (.bool false)], args := [] }
  | _ => none }
def WordsNamesWrongFalsely : Prop := wordsNamesRow.holds Try.pinned (OpenSpec.ofChange wordsNamesWrong)

/-- 'flotillalaw23.GateNames': WHATEVER THE INPUT: true; the input reads as it did. -/
def gateNamesSpec : ChangeSpec := { name := "gateNames", fn := fun _ => fun
  | [] => { results := [.lit (.bool true)], args := [] }
  | _ => none }
def gateNamesRow : OpenClaim := { program := "ytkgamiojoekegaa", sum := "e58b70b71e94274954dfdbf434b9e4911fdff78df745629da33ee9973f0db17a", func := "flotilla/flotillalaw23.GateNames", spec := "gateNames", apart := false }
def GateNamesSaid : Prop := gateNamesRow.holds Try.pinned (OpenSpec.ofChange gateNamesSpec)

/-- ITS FALSE NEIGHBOUR: 'it returns false'. Refute it at one input. -/
def gateNamesWrong : ChangeSpec := { name := "gateNames", fn := fun _ => fun
  | [] => { results := [.lit (.bool false)], args := [] }
  | _ => none }
def GateNamesWrongFalsely : Prop := gateNamesRow.holds Try.pinned (OpenSpec.ofChange gateNamesWrong)

/-- 'flotillalaw12.ChooseReady': WHATEVER THE INPUT: true; the input reads as it did. -/
def chooseReadySpec : ChangeSpec := { name := "chooseReady", fn := fun _ => fun
  | [d1, d2, d3, d4] => { results := [.lit (.bool true)], args := [d1, d2, d3, d4] }
  | _ => none }
def chooseReadyRow : OpenClaim := { program := "ytkgamiojoekegaa", sum := "e58b70b71e94274954dfdbf434b9e4911fdff78df745629da33ee9973f0db17a", func := "flotilla/flotillalaw12.ChooseReady", spec := "chooseReady", unfollowed := true, recurses := true, apart := false }
def ChooseReadySaid : Prop := chooseReadyRow.holds Try.pinned (OpenSpec.ofChange chooseReadySpec)

/-- ITS FALSE NEIGHBOUR: 'it returns false'. Refute it at one input. -/
def chooseReadyWrong : ChangeSpec := { name := "chooseReady", fn := fun _ => fun
  | [d1, d2, d3, d4] => { results := [.lit (.bool false)], args := [d1, d2, d3, d4] }
  | _ => none }
def ChooseReadyWrongFalsely : Prop := chooseReadyRow.holds Try.pinned (OpenSpec.ofChange chooseReadyWrong)

/-- 'flotillalaw12.ChooseMore': WHATEVER THE INPUT: true; the input reads as it did. -/
def chooseMoreSpec : ChangeSpec := { name := "chooseMore", fn := fun _ => fun
  | [d1, d2, d3, d4, d5, d6] => { results := [.lit (.bool true)], args := [d1, d2, d3, d4, d5, d6] }
  | _ => none }
def chooseMoreRow : OpenClaim := { program := "ytkgamiojoekegaa", sum := "e58b70b71e94274954dfdbf434b9e4911fdff78df745629da33ee9973f0db17a", func := "flotilla/flotillalaw12.ChooseMore", spec := "chooseMore", unfollowed := true, recurses := true, apart := false }
def ChooseMoreSaid : Prop := chooseMoreRow.holds Try.pinned (OpenSpec.ofChange chooseMoreSpec)

/-- ITS FALSE NEIGHBOUR: 'it returns false'. Refute it at one input. -/
def chooseMoreWrong : ChangeSpec := { name := "chooseMore", fn := fun _ => fun
  | [d1, d2, d3, d4, d5, d6] => { results := [.lit (.bool false)], args := [d1, d2, d3, d4, d5, d6] }
  | _ => none }
def ChooseMoreWrongFalsely : Prop := chooseMoreRow.holds Try.pinned (OpenSpec.ofChange chooseMoreWrong)

/-- 'flotillalaw12.ChooseBelieves': WHATEVER THE INPUT: true; the input reads as it did. -/
def chooseBelievesSpec : ChangeSpec := { name := "chooseBelieves", fn := fun _ => fun
  | [d1, d2, d3, d4] => { results := [.lit (.bool true)], args := [d1, d2, d3, d4] }
  | _ => none }
def chooseBelievesRow : OpenClaim := { program := "ytkgamiojoekegaa", sum := "e58b70b71e94274954dfdbf434b9e4911fdff78df745629da33ee9973f0db17a", func := "flotilla/flotillalaw12.ChooseBelieves", spec := "chooseBelieves", unfollowed := true, recurses := true, apart := false }
def ChooseBelievesSaid : Prop := chooseBelievesRow.holds Try.pinned (OpenSpec.ofChange chooseBelievesSpec)

/-- ITS FALSE NEIGHBOUR: 'it returns false'. Refute it at one input. -/
def chooseBelievesWrong : ChangeSpec := { name := "chooseBelieves", fn := fun _ => fun
  | [d1, d2, d3, d4] => { results := [.lit (.bool false)], args := [d1, d2, d3, d4] }
  | _ => none }
def ChooseBelievesWrongFalsely : Prop := chooseBelievesRow.holds Try.pinned (OpenSpec.ofChange chooseBelievesWrong)

/- THE SECOND FORM. 'bulk': how many values and letters a reading holds, each counted each time it is reached (what is shared counts as often as it is met; a slice's spare places count too). A statement '..UptoSaid' is the law's where the arguments, and the package variables that the reading takes, are together of bulk at most 1048576: NARROWER than '..Said'. Prove '..Said' where nothing that the law and all that it calls make is longer than what came in: it says more and counts as full. Else prove '..UptoSaid'. A law counts once. -/
mutual
def uptoBulk {H : Type} : DataW H → Nat
  | .lit (.string bytes) => bytes.length + 1
  | .lit _ => 1
  | .nil => 1
  | .ptr d => uptoBulk d + 1
  | .slice elems spare => uptoBulkAll elems + uptoBulkAll spare + 1
  | .agg parts => uptoBulkAll parts + 1
  | .iface _ d => uptoBulk d + 1
  | .map entries => uptoBulkEntries entries + 1
  | .held _ => 1
def uptoBulkAll {H : Type} : List (DataW H) → Nat
  | [] => 0
  | d :: r => uptoBulk d + uptoBulkAll r
def uptoBulkEntries {H : Type} : List (Lit × DataW H) → Nat
  | [] => 0
  | x :: r => uptoBulkEntry x + uptoBulkEntries r
def uptoBulkEntry {H : Type} : Lit × DataW H → Nat
  | (.string bytes, d) => bytes.length + uptoBulk d + 1
  | (_, d) => uptoBulk d + 1
 end
def uptoSmall : (H : Type) → List (DataW H) → Bool := fun _ ds => decide (uptoBulkAll ds ≤ 1048576)
def OpenSpec.upto (s : _root_.Go.ChangeSpec) : _root_.Go.OpenSpec := { _root_.Go.OpenSpec.ofChange s with cond := some uptoSmall }

/-- 'flotillalaw12.ChooseNames', WHERE WHAT IT READS IS OF BULK AT MOST 1048576: true; the input reads as it did. -/
def chooseNamesUptoRow : OpenClaim := { program := "ytkgamiojoekegaa", sum := "e58b70b71e94274954dfdbf434b9e4911fdff78df745629da33ee9973f0db17a", func := "flotilla/flotillalaw12.ChooseNames", spec := "chooseNames", apart := false, narrowed := true }
def ChooseNamesUptoSaid : Prop := chooseNamesUptoRow.holds Try.pinned (OpenSpec.upto chooseNamesSpec)

/-- 'flotillalaw16.WordsNames', WHERE WHAT IT READS IS OF BULK AT MOST 1048576: true; the input reads as it did. -/
def wordsNamesUptoRow : OpenClaim := { program := "ytkgamiojoekegaa", sum := "e58b70b71e94274954dfdbf434b9e4911fdff78df745629da33ee9973f0db17a", func := "flotilla/flotillalaw16.WordsNames", spec := "wordsNames", apart := false, narrowed := true }
def WordsNamesUptoSaid : Prop := wordsNamesUptoRow.holds Try.pinned (OpenSpec.upto wordsNamesSpec)

/-- 'flotillalaw23.GateNames', WHERE WHAT IT READS IS OF BULK AT MOST 1048576: true; the input reads as it did. -/
def gateNamesUptoRow : OpenClaim := { program := "ytkgamiojoekegaa", sum := "e58b70b71e94274954dfdbf434b9e4911fdff78df745629da33ee9973f0db17a", func := "flotilla/flotillalaw23.GateNames", spec := "gateNames", apart := false, narrowed := true }
def GateNamesUptoSaid : Prop := gateNamesUptoRow.holds Try.pinned (OpenSpec.upto gateNamesSpec)

/-- 'flotillalaw12.ChooseReady', WHERE WHAT IT READS IS OF BULK AT MOST 1048576: true; the input reads as it did. -/
def chooseReadyUptoRow : OpenClaim := { program := "ytkgamiojoekegaa", sum := "e58b70b71e94274954dfdbf434b9e4911fdff78df745629da33ee9973f0db17a", func := "flotilla/flotillalaw12.ChooseReady", spec := "chooseReady", unfollowed := true, recurses := true, apart := false, narrowed := true }
def ChooseReadyUptoSaid : Prop := chooseReadyUptoRow.holds Try.pinned (OpenSpec.upto chooseReadySpec)

/-- 'flotillalaw12.ChooseMore', WHERE WHAT IT READS IS OF BULK AT MOST 1048576: true; the input reads as it did. -/
def chooseMoreUptoRow : OpenClaim := { program := "ytkgamiojoekegaa", sum := "e58b70b71e94274954dfdbf434b9e4911fdff78df745629da33ee9973f0db17a", func := "flotilla/flotillalaw12.ChooseMore", spec := "chooseMore", unfollowed := true, recurses := true, apart := false, narrowed := true }
def ChooseMoreUptoSaid : Prop := chooseMoreUptoRow.holds Try.pinned (OpenSpec.upto chooseMoreSpec)

/-- 'flotillalaw12.ChooseBelieves', WHERE WHAT IT READS IS OF BULK AT MOST 1048576: true; the input reads as it did. -/
def chooseBelievesUptoRow : OpenClaim := { program := "ytkgamiojoekegaa", sum := "e58b70b71e94274954dfdbf434b9e4911fdff78df745629da33ee9973f0db17a", func := "flotilla/flotillalaw12.ChooseBelieves", spec := "chooseBelieves", unfollowed := true, recurses := true, apart := false, narrowed := true }
def ChooseBelievesUptoSaid : Prop := chooseBelievesUptoRow.holds Try.pinned (OpenSpec.upto chooseBelievesSpec)

end Rows
end Go.Proofs.Ytkgamiojoekegaa
