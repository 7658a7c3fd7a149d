/-
  No cell of these rows narrows 'for every input' (looked for: loops, veiled, ifaces, maps, wideKeys, modest, calm, conditions, laid).
  DERIVED. THE GIVEN ROWS OF THIS SEAT. 10 by the template 'for every input the law returns true; each argument reads behind the call as it read before'; 0 by the template 'total and deterministic' (their statements: YtkgamiojoekegabTotals.lean).
  GIVEN WITH THE SEED: the statements are not yours to turn. If you find one false, say at which input.
  Laid BY PROGRAM, IN A SANDBOX (cutbox-rows.mjs): the forced cells as the released guide's own fill.sh prints them over the translation f141f5c23ea4c04e… (all of the seat's roots in one cut). By AI agents, Wed Nov 11 2026. No macro, syntax, notation, axiom, sorry.
-/
import Derived.Test.YtkgamiojoekegabChecked
import GoSem.Claim
import GoSem.ClaimJoined
import GoSem.ClaimMapViews
import Derived.JoinedTies
import Derived.KernelRfl
namespace Go.Proofs.Ytkgamiojoekegab
/- THE CELL 'sum', in the pinned program and in every row, IS THE sha256 OF THE DUMP (.gsa) THAT YtkgamiojoekegabProg.lean LOADS. Nothing in Lean hashes anything: it is a label: what it is worth is what the hold of that sum in a sandbox is worth. -/
noncomputable def Try.pinned : Pinned := { name := "ytkgamiojoekegab", sum := "f141f5c23ea4c04e82c91daf69e25ae9a5cda5b5d0f1a2a9c56426ac2ab98cb1", checked := Try.checked }
namespace Rows
def none {H : Type} : Left H := { results := [], args := [] }

/-- 'flotillalaw12.ChooseBest': WHATEVER THE INPUT: true; the input reads as it did. -/
def chooseBestSpec : ChangeSpec := { name := "chooseBest", fn := fun _ => fun
  | [d1, d2] => { results := [.lit (.bool true)], args := [d1, d2] }
  | _ => none }
def chooseBestRow : OpenClaim := { program := "ytkgamiojoekegab", sum := "f141f5c23ea4c04e82c91daf69e25ae9a5cda5b5d0f1a2a9c56426ac2ab98cb1", func := "flotilla/flotillalaw12.ChooseBest", spec := "chooseBest", unfollowed := true, recurses := true, apart := false }
def ChooseBestSaid : Prop := chooseBestRow.holds Try.pinned (OpenSpec.ofChange chooseBestSpec)

/-- ITS FALSE NEIGHBOUR: 'it returns false'. Refute it at one input. -/
def chooseBestWrong : ChangeSpec := { name := "chooseBest", fn := fun _ => fun
  | [d1, d2] => { results := [.lit (.bool false)], args := [d1, d2] }
  | _ => none }
def ChooseBestWrongFalsely : Prop := chooseBestRow.holds Try.pinned (OpenSpec.ofChange chooseBestWrong)

/-- 'flotillalaw12.ChooseKeeps': WHATEVER THE INPUT: true; the input reads as it did. -/
def chooseKeepsSpec : ChangeSpec := { name := "chooseKeeps", fn := fun _ => fun
  | [d1, d2, d3, d4, d5] => { results := [.lit (.bool true)], args := [d1, d2, d3, d4, d5] }
  | _ => none }
def chooseKeepsRow : OpenClaim := { program := "ytkgamiojoekegab", sum := "f141f5c23ea4c04e82c91daf69e25ae9a5cda5b5d0f1a2a9c56426ac2ab98cb1", func := "flotilla/flotillalaw12.ChooseKeeps", spec := "chooseKeeps", unfollowed := true, recurses := true, apart := false }
def ChooseKeepsSaid : Prop := chooseKeepsRow.holds Try.pinned (OpenSpec.ofChange chooseKeepsSpec)

/-- ITS FALSE NEIGHBOUR: 'it returns false'. Refute it at one input. -/
def chooseKeepsWrong : ChangeSpec := { name := "chooseKeeps", fn := fun _ => fun
  | [d1, d2, d3, d4, d5] => { results := [.lit (.bool false)], args := [d1, d2, d3, d4, d5] }
  | _ => none }
def ChooseKeepsWrongFalsely : Prop := chooseKeepsRow.holds Try.pinned (OpenSpec.ofChange chooseKeepsWrong)

/-- 'flotillalaw15.BagTwice': WHATEVER THE INPUT: true; the input reads as it did. -/
def bagTwiceSpec : ChangeSpec := { name := "bagTwice", fn := fun _ => fun
  | [d1, d2, d3] => { results := [.lit (.bool true)], args := [d1, d2, d3] }
  | _ => none }
def bagTwiceRow : OpenClaim := { program := "ytkgamiojoekegab", sum := "f141f5c23ea4c04e82c91daf69e25ae9a5cda5b5d0f1a2a9c56426ac2ab98cb1", func := "flotilla/flotillalaw15.BagTwice", spec := "bagTwice", apart := false }
def BagTwiceSaid : Prop := bagTwiceRow.holds Try.pinned (OpenSpec.ofChange bagTwiceSpec)

/-- ITS FALSE NEIGHBOUR: 'it returns false'. Refute it at one input. -/
def bagTwiceWrong : ChangeSpec := { name := "bagTwice", fn := fun _ => fun
  | [d1, d2, d3] => { results := [.lit (.bool false)], args := [d1, d2, d3] }
  | _ => none }
def BagTwiceWrongFalsely : Prop := bagTwiceRow.holds Try.pinned (OpenSpec.ofChange bagTwiceWrong)

/-- 'flotillalaw04.VotesConfigs': WHATEVER THE INPUT: true; the input reads as it did. -/
def votesConfigsSpec : ChangeSpec := { name := "votesConfigs", fn := fun _ => fun
  | [d] => { results := [.lit (.bool true)], args := [d] }
  | _ => none }
def votesConfigsRow : OpenClaim := { program := "ytkgamiojoekegab", sum := "f141f5c23ea4c04e82c91daf69e25ae9a5cda5b5d0f1a2a9c56426ac2ab98cb1", func := "flotilla/flotillalaw04.VotesConfigs", spec := "votesConfigs", unfollowed := true, recurses := true, apart := false }
def VotesConfigsSaid : Prop := votesConfigsRow.holds Try.pinned (OpenSpec.ofChange votesConfigsSpec)

/-- ITS FALSE NEIGHBOUR: 'it returns false'. Refute it at one input. -/
def votesConfigsWrong : ChangeSpec := { name := "votesConfigs", fn := fun _ => fun
  | [d] => { results := [.lit (.bool false)], args := [d] }
  | _ => none }
def VotesConfigsWrongFalsely : Prop := votesConfigsRow.holds Try.pinned (OpenSpec.ofChange votesConfigsWrong)

/-- 'flotillalaw04.VotesNumbers': WHATEVER THE INPUT: true; the input reads as it did. -/
def votesNumbersSpec : ChangeSpec := { name := "votesNumbers", fn := fun _ => fun
  | [d1, d2, d3] => { results := [.lit (.bool true)], args := [d1, d2, d3] }
  | _ => none }
def votesNumbersRow : OpenClaim := { program := "ytkgamiojoekegab", sum := "f141f5c23ea4c04e82c91daf69e25ae9a5cda5b5d0f1a2a9c56426ac2ab98cb1", func := "flotilla/flotillalaw04.VotesNumbers", spec := "votesNumbers", unfollowed := true, recurses := true, apart := false }
def VotesNumbersSaid : Prop := votesNumbersRow.holds Try.pinned (OpenSpec.ofChange votesNumbersSpec)

/-- ITS FALSE NEIGHBOUR: 'it returns false'. Refute it at one input. -/
def votesNumbersWrong : ChangeSpec := { name := "votesNumbers", fn := fun _ => fun
  | [d1, d2, d3] => { results := [.lit (.bool false)], args := [d1, d2, d3] }
  | _ => none }
def VotesNumbersWrongFalsely : Prop := votesNumbersRow.holds Try.pinned (OpenSpec.ofChange votesNumbersWrong)

/-- 'flotillalaw04.VotesMeet': WHATEVER THE INPUT: true; the input reads as it did. -/
def votesMeetSpec : ChangeSpec := { name := "votesMeet", fn := fun _ => fun
  | [d1, d2, d3, d4] => { results := [.lit (.bool true)], args := [d1, d2, d3, d4] }
  | _ => none }
def votesMeetRow : OpenClaim := { program := "ytkgamiojoekegab", sum := "f141f5c23ea4c04e82c91daf69e25ae9a5cda5b5d0f1a2a9c56426ac2ab98cb1", func := "flotilla/flotillalaw04.VotesMeet", spec := "votesMeet", unfollowed := true, recurses := true, apart := false }
def VotesMeetSaid : Prop := votesMeetRow.holds Try.pinned (OpenSpec.ofChange votesMeetSpec)

/-- ITS FALSE NEIGHBOUR: 'it returns false'. Refute it at one input. -/
def votesMeetWrong : ChangeSpec := { name := "votesMeet", fn := fun _ => fun
  | [d1, d2, d3, d4] => { results := [.lit (.bool false)], args := [d1, d2, d3, d4] }
  | _ => none }
def VotesMeetWrongFalsely : Prop := votesMeetRow.holds Try.pinned (OpenSpec.ofChange votesMeetWrong)

/-- 'flotillalaw04.VotesReach': WHATEVER THE INPUT: true; the input reads as it did. -/
def votesReachSpec : ChangeSpec := { name := "votesReach", fn := fun _ => fun
  | [d1, d2, d3, d4] => { results := [.lit (.bool true)], args := [d1, d2, d3, d4] }
  | _ => none }
def votesReachRow : OpenClaim := { program := "ytkgamiojoekegab", sum := "f141f5c23ea4c04e82c91daf69e25ae9a5cda5b5d0f1a2a9c56426ac2ab98cb1", func := "flotilla/flotillalaw04.VotesReach", spec := "votesReach", unfollowed := true, recurses := true, apart := false }
def VotesReachSaid : Prop := votesReachRow.holds Try.pinned (OpenSpec.ofChange votesReachSpec)

/-- ITS FALSE NEIGHBOUR: 'it returns false'. Refute it at one input. -/
def votesReachWrong : ChangeSpec := { name := "votesReach", fn := fun _ => fun
  | [d1, d2, d3, d4] => { results := [.lit (.bool false)], args := [d1, d2, d3, d4] }
  | _ => none }
def VotesReachWrongFalsely : Prop := votesReachRow.holds Try.pinned (OpenSpec.ofChange votesReachWrong)

/-- 'flotillalaw04.VotesNames': WHATEVER THE INPUT: true; the input reads as it did. -/
def votesNamesSpec : ChangeSpec := { name := "votesNames", fn := fun _ => fun
  | [] => { results := [.lit (.bool true)], args := [] }
  | _ => none }
def votesNamesRow : OpenClaim := { program := "ytkgamiojoekegab", sum := "f141f5c23ea4c04e82c91daf69e25ae9a5cda5b5d0f1a2a9c56426ac2ab98cb1", func := "flotilla/flotillalaw04.VotesNames", spec := "votesNames", unfollowed := true, recurses := true, apart := false }
def VotesNamesSaid : Prop := votesNamesRow.holds Try.pinned (OpenSpec.ofChange votesNamesSpec)

/-- ITS FALSE NEIGHBOUR: 'it returns false'. Refute it at one input. -/
def votesNamesWrong : ChangeSpec := { name := "votesNames", fn := fun _ => fun
  | [] => { results := [.lit (.bool false)], args := [] }
  | _ => none }
def VotesNamesWrongFalsely : Prop := votesNamesRow.holds Try.pinned (OpenSpec.ofChange votesNamesWrong)

/-- 'flotillalaw15.BagTurned': WHATEVER THE INPUT: true; the input reads as it did. -/
def bagTurnedSpec : ChangeSpec := { name := "bagTurned", fn := fun _ => fun
  | [d1, d2] => { results := [.lit (.bool true)], args := [d1, d2] }
  | _ => none }
def bagTurnedRow : OpenClaim := { program := "ytkgamiojoekegab", sum := "f141f5c23ea4c04e82c91daf69e25ae9a5cda5b5d0f1a2a9c56426ac2ab98cb1", func := "flotilla/flotillalaw15.BagTurned", spec := "bagTurned", apart := false }
def BagTurnedSaid : Prop := bagTurnedRow.holds Try.pinned (OpenSpec.ofChange bagTurnedSpec)

/-- ITS FALSE NEIGHBOUR: 'it returns false'. Refute it at one input. -/
def bagTurnedWrong : ChangeSpec := { name := "bagTurned", fn := fun _ => fun
  | [d1, d2] => { results := [.lit (.bool false)], args := [d1, d2] }
  | _ => none }
def BagTurnedWrongFalsely : Prop := bagTurnedRow.holds Try.pinned (OpenSpec.ofChange bagTurnedWrong)

/-- 'flotillalaw15.BagCounts': WHATEVER THE INPUT: true; the input reads as it did. -/
def bagCountsSpec : ChangeSpec := { name := "bagCounts", fn := fun _ => fun
  | [d1, d2] => { results := [.lit (.bool true)], args := [d1, d2] }
  | _ => none }
def bagCountsRow : OpenClaim := { program := "ytkgamiojoekegab", sum := "f141f5c23ea4c04e82c91daf69e25ae9a5cda5b5d0f1a2a9c56426ac2ab98cb1", func := "flotilla/flotillalaw15.BagCounts", spec := "bagCounts", apart := false }
def BagCountsSaid : Prop := bagCountsRow.holds Try.pinned (OpenSpec.ofChange bagCountsSpec)

/-- ITS FALSE NEIGHBOUR: 'it returns false'. Refute it at one input. -/
def bagCountsWrong : ChangeSpec := { name := "bagCounts", fn := fun _ => fun
  | [d1, d2] => { results := [.lit (.bool false)], args := [d1, d2] }
  | _ => none }
def BagCountsWrongFalsely : Prop := bagCountsRow.holds Try.pinned (OpenSpec.ofChange bagCountsWrong)

/- THE SECOND FORM. 'bulk': how many values and letters a reading holds, each counted each time it is reached (what is shared counts as often as it is met; a slice's spare places count too). A statement '..UptoSaid' is the law's where the arguments, and the package variables that the reading takes, are together of bulk at most 1048576: NARROWER than '..Said'. Prove '..Said' where nothing that the law and all that it calls make is longer than what came in: it says more and counts as full. Else prove '..UptoSaid'. A law counts once. -/
mutual
def uptoBulk {H : Type} : DataW H → Nat
  | .lit (.string bytes) => bytes.length + 1
  | .lit _ => 1
  | .nil => 1
  | .ptr d => uptoBulk d + 1
  | .slice elems spare => uptoBulkAll elems + uptoBulkAll spare + 1
  | .agg parts => uptoBulkAll parts + 1
  | .iface _ d => uptoBulk d + 1
  | .map entries => uptoBulkEntries entries + 1
  | .held _ => 1
def uptoBulkAll {H : Type} : List (DataW H) → Nat
  | [] => 0
  | d :: r => uptoBulk d + uptoBulkAll r
def uptoBulkEntries {H : Type} : List (Lit × DataW H) → Nat
  | [] => 0
  | x :: r => uptoBulkEntry x + uptoBulkEntries r
def uptoBulkEntry {H : Type} : Lit × DataW H → Nat
  | (.string bytes, d) => bytes.length + uptoBulk d + 1
  | (_, d) => uptoBulk d + 1
 end
def uptoSmall : (H : Type) → List (DataW H) → Bool := fun _ ds => decide (uptoBulkAll ds ≤ 1048576)
def OpenSpec.upto (s : _root_.Go.ChangeSpec) : _root_.Go.OpenSpec := { _root_.Go.OpenSpec.ofChange s with cond := some uptoSmall }

/-- 'flotillalaw12.ChooseBest', WHERE WHAT IT READS IS OF BULK AT MOST 1048576: true; the input reads as it did. -/
def chooseBestUptoRow : OpenClaim := { program := "ytkgamiojoekegab", sum := "f141f5c23ea4c04e82c91daf69e25ae9a5cda5b5d0f1a2a9c56426ac2ab98cb1", func := "flotilla/flotillalaw12.ChooseBest", spec := "chooseBest", unfollowed := true, recurses := true, apart := false, narrowed := true }
def ChooseBestUptoSaid : Prop := chooseBestUptoRow.holds Try.pinned (OpenSpec.upto chooseBestSpec)

/-- 'flotillalaw12.ChooseKeeps', WHERE WHAT IT READS IS OF BULK AT MOST 1048576: true; the input reads as it did. -/
def chooseKeepsUptoRow : OpenClaim := { program := "ytkgamiojoekegab", sum := "f141f5c23ea4c04e82c91daf69e25ae9a5cda5b5d0f1a2a9c56426ac2ab98cb1", func := "flotilla/flotillalaw12.ChooseKeeps", spec := "chooseKeeps", unfollowed := true, recurses := true, apart := false, narrowed := true }
def ChooseKeepsUptoSaid : Prop := chooseKeepsUptoRow.holds Try.pinned (OpenSpec.upto chooseKeepsSpec)

/-- 'flotillalaw15.BagTwice', WHERE WHAT IT READS IS OF BULK AT MOST 1048576: true; the input reads as it did. -/
def bagTwiceUptoRow : OpenClaim := { program := "ytkgamiojoekegab", sum := "f141f5c23ea4c04e82c91daf69e25ae9a5cda5b5d0f1a2a9c56426ac2ab98cb1", func := "flotilla/flotillalaw15.BagTwice", spec := "bagTwice", apart := false, narrowed := true }
def BagTwiceUptoSaid : Prop := bagTwiceUptoRow.holds Try.pinned (OpenSpec.upto bagTwiceSpec)

/-- 'flotillalaw04.VotesConfigs', WHERE WHAT IT READS IS OF BULK AT MOST 1048576: true; the input reads as it did. -/
def votesConfigsUptoRow : OpenClaim := { program := "ytkgamiojoekegab", sum := "f141f5c23ea4c04e82c91daf69e25ae9a5cda5b5d0f1a2a9c56426ac2ab98cb1", func := "flotilla/flotillalaw04.VotesConfigs", spec := "votesConfigs", unfollowed := true, recurses := true, apart := false, narrowed := true }
def VotesConfigsUptoSaid : Prop := votesConfigsUptoRow.holds Try.pinned (OpenSpec.upto votesConfigsSpec)

/-- 'flotillalaw04.VotesNumbers', WHERE WHAT IT READS IS OF BULK AT MOST 1048576: true; the input reads as it did. -/
def votesNumbersUptoRow : OpenClaim := { program := "ytkgamiojoekegab", sum := "f141f5c23ea4c04e82c91daf69e25ae9a5cda5b5d0f1a2a9c56426ac2ab98cb1", func := "flotilla/flotillalaw04.VotesNumbers", spec := "votesNumbers", unfollowed := true, recurses := true, apart := false, narrowed := true }
def VotesNumbersUptoSaid : Prop := votesNumbersUptoRow.holds Try.pinned (OpenSpec.upto votesNumbersSpec)

/-- 'flotillalaw04.VotesMeet', WHERE WHAT IT READS IS OF BULK AT MOST 1048576: true; the input reads as it did. -/
def votesMeetUptoRow : OpenClaim := { program := "ytkgamiojoekegab", sum := "f141f5c23ea4c04e82c91daf69e25ae9a5cda5b5d0f1a2a9c56426ac2ab98cb1", func := "flotilla/flotillalaw04.VotesMeet", spec := "votesMeet", unfollowed := true, recurses := true, apart := false, narrowed := true }
def VotesMeetUptoSaid : Prop := votesMeetUptoRow.holds Try.pinned (OpenSpec.upto votesMeetSpec)

/-- 'flotillalaw04.VotesReach', WHERE WHAT IT READS IS OF BULK AT MOST 1048576: true; the input reads as it did. -/
def votesReachUptoRow : OpenClaim := { program := "ytkgamiojoekegab", sum := "f141f5c23ea4c04e82c91daf69e25ae9a5cda5b5d0f1a2a9c56426ac2ab98cb1", func := "flotilla/flotillalaw04.VotesReach", spec := "votesReach", unfollowed := true, recurses := true, apart := false, narrowed := true }
def VotesReachUptoSaid : Prop := votesReachUptoRow.holds Try.pinned (OpenSpec.upto votesReachSpec)

/-- 'flotillalaw04.VotesNames', WHERE WHAT IT READS IS OF BULK AT MOST 1048576: true; the input reads as it did. -/
def votesNamesUptoRow : OpenClaim := { program := "ytkgamiojoekegab", sum := "f141f5c23ea4c04e82c91daf69e25ae9a5cda5b5d0f1a2a9c56426ac2ab98cb1", func := "flotilla/flotillalaw04.VotesNames", spec := "votesNames", unfollowed := true, recurses := true, apart := false, narrowed := true }
def VotesNamesUptoSaid : Prop := votesNamesUptoRow.holds Try.pinned (OpenSpec.upto votesNamesSpec)

/-- 'flotillalaw15.BagTurned', WHERE WHAT IT READS IS OF BULK AT MOST 1048576: true; the input reads as it did. -/
def bagTurnedUptoRow : OpenClaim := { program := "ytkgamiojoekegab", sum := "f141f5c23ea4c04e82c91daf69e25ae9a5cda5b5d0f1a2a9c56426ac2ab98cb1", func := "flotilla/flotillalaw15.BagTurned", spec := "bagTurned", apart := false, narrowed := true }
def BagTurnedUptoSaid : Prop := bagTurnedUptoRow.holds Try.pinned (OpenSpec.upto bagTurnedSpec)

/-- 'flotillalaw15.BagCounts', WHERE WHAT IT READS IS OF BULK AT MOST 1048576: true; the input reads as it did. -/
def bagCountsUptoRow : OpenClaim := { program := "ytkgamiojoekegab", sum := "f141f5c23ea4c04e82c91daf69e25ae9a5cda5b5d0f1a2a9c56426ac2ab98cb1", func := "flotilla/flotillalaw15.BagCounts", spec := "bagCounts", apart := false, narrowed := true }
def BagCountsUptoSaid : Prop := bagCountsUptoRow.holds Try.pinned (OpenSpec.upto bagCountsSpec)

end Rows
end Go.Proofs.Ytkgamiojoekegab
