/-
  No cell of these rows narrows 'for every input' (looked for: loops, veiled, ifaces, maps, wideKeys, modest, calm, conditions, laid).
  DERIVED. THE GIVEN ROWS OF THIS SEAT. 3 by the template 'for every input the law returns true; each argument reads behind the call as it read before'; 0 by the template 'total and deterministic' (their statements: YtobnehbcnlhchaaTotals.lean).
  GIVEN WITH THE SEED: the statements are not yours to turn. If you find one false, say at which input.
  Laid BY PROGRAM, IN A SANDBOX (cutbox-rows.mjs): the forced cells as the released guide's own fill.sh prints them over the translation 3a6d0b3621436cb0… (all of the seat's roots in one cut). By AI agents, Wed Nov 11 2026. No macro, syntax, notation, axiom, sorry.
-/
import Derived.Test.YtobnehbcnlhchaaChecked
import GoSem.Claim
import GoSem.ClaimJoined
import GoSem.ClaimMapViews
import Derived.JoinedTies
import Derived.KernelRfl
namespace Go.Proofs.Ytobnehbcnlhchaa
/- THE CELL 'sum', in the pinned program and in every row, IS THE sha256 OF THE DUMP (.gsa) THAT YtobnehbcnlhchaaProg.lean LOADS. Nothing in Lean hashes anything: it is a label: what it is worth is what the hold of that sum in a sandbox is worth. -/
noncomputable def Try.pinned : Pinned := { name := "ytobnehbcnlhchaa", sum := "3a6d0b3621436cb03c743c9c9cbabb6fc0ee232fd653d63b8e1c35f14f70f96c", checked := Try.checked }
namespace Rows
def none {H : Type} : Left H := { results := [], args := [] }

/-- 'flotillalaw04.VotesShares': WHATEVER THE INPUT: true; the input reads as it did. -/
def votesSharesSpec : ChangeSpec := { name := "votesShares", fn := fun _ => fun
  | [d1, d2] => { results := [.lit (.bool true)], args := [d1, d2] }
  | _ => none }
def votesSharesRow : OpenClaim := { program := "ytobnehbcnlhchaa", sum := "3a6d0b3621436cb03c743c9c9cbabb6fc0ee232fd653d63b8e1c35f14f70f96c", func := "flotilla/flotillalaw04.VotesShares", spec := "votesShares", unfollowed := true, recurses := true, apart := false }
def VotesSharesSaid : Prop := votesSharesRow.holds Try.pinned (OpenSpec.ofChange votesSharesSpec)

/-- ITS FALSE NEIGHBOUR: 'it returns false'. Refute it at one input. -/
def votesSharesWrong : ChangeSpec := { name := "votesShares", fn := fun _ => fun
  | [d1, d2] => { results := [.lit (.bool false)], args := [d1, d2] }
  | _ => none }
def VotesSharesWrongFalsely : Prop := votesSharesRow.holds Try.pinned (OpenSpec.ofChange votesSharesWrong)

/-- 'flotillalaw04.VotesTallies': WHATEVER THE INPUT: true; the input reads as it did. -/
def votesTalliesSpec : ChangeSpec := { name := "votesTallies", fn := fun _ => fun
  | [d1, d2] => { results := [.lit (.bool true)], args := [d1, d2] }
  | _ => none }
def votesTalliesRow : OpenClaim := { program := "ytobnehbcnlhchaa", sum := "3a6d0b3621436cb03c743c9c9cbabb6fc0ee232fd653d63b8e1c35f14f70f96c", func := "flotilla/flotillalaw04.VotesTallies", spec := "votesTallies", unfollowed := true, recurses := true, apart := false }
def VotesTalliesSaid : Prop := votesTalliesRow.holds Try.pinned (OpenSpec.ofChange votesTalliesSpec)

/-- ITS FALSE NEIGHBOUR: 'it returns false'. Refute it at one input. -/
def votesTalliesWrong : ChangeSpec := { name := "votesTallies", fn := fun _ => fun
  | [d1, d2] => { results := [.lit (.bool false)], args := [d1, d2] }
  | _ => none }
def VotesTalliesWrongFalsely : Prop := votesTalliesRow.holds Try.pinned (OpenSpec.ofChange votesTalliesWrong)

/-- 'flotillalaw12.ChooseTurned': WHATEVER THE INPUT: true; the input reads as it did. -/
def chooseTurnedSpec : ChangeSpec := { name := "chooseTurned", fn := fun _ => fun
  | [d1, d2, d3, d4, d5, d6] => { results := [.lit (.bool true)], args := [d1, d2, d3, d4, d5, d6] }
  | _ => none }
def chooseTurnedRow : OpenClaim := { program := "ytobnehbcnlhchaa", sum := "3a6d0b3621436cb03c743c9c9cbabb6fc0ee232fd653d63b8e1c35f14f70f96c", func := "flotilla/flotillalaw12.ChooseTurned", spec := "chooseTurned", unfollowed := true, recurses := true, apart := false }
def ChooseTurnedSaid : Prop := chooseTurnedRow.holds Try.pinned (OpenSpec.ofChange chooseTurnedSpec)

/-- ITS FALSE NEIGHBOUR: 'it returns false'. Refute it at one input. -/
def chooseTurnedWrong : ChangeSpec := { name := "chooseTurned", fn := fun _ => fun
  | [d1, d2, d3, d4, d5, d6] => { results := [.lit (.bool false)], args := [d1, d2, d3, d4, d5, d6] }
  | _ => none }
def ChooseTurnedWrongFalsely : Prop := chooseTurnedRow.holds Try.pinned (OpenSpec.ofChange chooseTurnedWrong)

/- THE SECOND FORM. 'bulk': how many values and letters a reading holds, each counted each time it is reached (what is shared counts as often as it is met; a slice's spare places count too). A statement '..UptoSaid' is the law's where the arguments, and the package variables that the reading takes, are together of bulk at most 1048576: NARROWER than '..Said'. Prove '..Said' where nothing that the law and all that it calls make is longer than what came in: it says more and counts as full. Else prove '..UptoSaid'. A law counts once. -/
mutual
def uptoBulk {H : Type} : DataW H → Nat
  | .lit (.string bytes) => bytes.length + 1
  | .lit _ => 1
  | .nil => 1
  | .ptr d => uptoBulk d + 1
  | .slice elems spare => uptoBulkAll elems + uptoBulkAll spare + 1
  | .agg parts => uptoBulkAll parts + 1
  | .iface _ d => uptoBulk d + 1
  | .map entries => uptoBulkEntries entries + 1
  | .held _ => 1
def uptoBulkAll {H : Type} : List (DataW H) → Nat
  | [] => 0
  | d :: r => uptoBulk d + uptoBulkAll r
def uptoBulkEntries {H : Type} : List (Lit × DataW H) → Nat
  | [] => 0
  | x :: r => uptoBulkEntry x + uptoBulkEntries r
def uptoBulkEntry {H : Type} : Lit × DataW H → Nat
  | (.string bytes, d) => bytes.length + uptoBulk d + 1
  | (_, d) => uptoBulk d + 1
 end
def uptoSmall : (H : Type) → List (DataW H) → Bool := fun _ ds => decide (uptoBulkAll ds ≤ 1048576)
def OpenSpec.upto (s : _root_.Go.ChangeSpec) : _root_.Go.OpenSpec := { _root_.Go.OpenSpec.ofChange s with cond := some uptoSmall }

/-- 'flotillalaw04.VotesShares', WHERE WHAT IT READS IS OF BULK AT MOST 1048576: true; the input reads as it did. -/
def votesSharesUptoRow : OpenClaim := { program := "ytobnehbcnlhchaa", sum := "3a6d0b3621436cb03c743c9c9cbabb6fc0ee232fd653d63b8e1c35f14f70f96c", func := "flotilla/flotillalaw04.VotesShares", spec := "votesShares", unfollowed := true, recurses := true, apart := false, narrowed := true }
def VotesSharesUptoSaid : Prop := votesSharesUptoRow.holds Try.pinned (OpenSpec.upto votesSharesSpec)

/-- 'flotillalaw04.VotesTallies', WHERE WHAT IT READS IS OF BULK AT MOST 1048576: true; the input reads as it did. -/
def votesTalliesUptoRow : OpenClaim := { program := "ytobnehbcnlhchaa", sum := "3a6d0b3621436cb03c743c9c9cbabb6fc0ee232fd653d63b8e1c35f14f70f96c", func := "flotilla/flotillalaw04.VotesTallies", spec := "votesTallies", unfollowed := true, recurses := true, apart := false, narrowed := true }
def VotesTalliesUptoSaid : Prop := votesTalliesUptoRow.holds Try.pinned (OpenSpec.upto votesTalliesSpec)

/-- 'flotillalaw12.ChooseTurned', WHERE WHAT IT READS IS OF BULK AT MOST 1048576: true; the input reads as it did. -/
def chooseTurnedUptoRow : OpenClaim := { program := "ytobnehbcnlhchaa", sum := "3a6d0b3621436cb03c743c9c9cbabb6fc0ee232fd653d63b8e1c35f14f70f96c", func := "flotilla/flotillalaw12.ChooseTurned", spec := "chooseTurned", unfollowed := true, recurses := true, apart := false, narrowed := true }
def ChooseTurnedUptoSaid : Prop := chooseTurnedUptoRow.holds Try.pinned (OpenSpec.upto chooseTurnedSpec)

end Rows
end Go.Proofs.Ytobnehbcnlhchaa
