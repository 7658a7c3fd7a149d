/-
  NARROWER THAN 'FOR EVERY INPUT', by the rows' own cells (each row's printed sentence says how): SealSum: laid · SealMakes: laid · SealOpens: laid · SealBack: laid · SealTold: laid · SealBurst: laid · SealCuts: laid · SealRow: laid.
  DERIVED. THE GIVEN ROWS OF THIS SEAT. 8 by the template 'for every input the law returns true; each argument reads behind the call as it read before'; 0 by the template 'total and deterministic' (their statements: YtfpjdgkooikeoaaDoorTotals.lean).
  GIVEN WITH THE SEED: the statements are not yours to turn. If you find one false, say at which input.
  Laid BY PROGRAM, IN A SANDBOX (cutbox-rows.mjs): the forced cells as the released guide's own fill.sh prints them over the translation e664afe1f1134251… (all of the seat's roots in one cut). By AI agents, Wed Nov 11 2026. No macro, syntax, notation, axiom, sorry.
-/
import Derived.Test.YtfpjdgkooikeoaaDoorChecked
import GoSem.Claim
import GoSem.ClaimJoined
import GoSem.ClaimMapViews
import Derived.JoinedTies
import Derived.KernelRfl
namespace Go.Proofs.YtfpjdgkooikeoaaDoor
/- THE CELL 'sum', in the pinned program and in every row, IS THE sha256 OF THE DUMP (.gsa) THAT YtfpjdgkooikeoaaDoorProg.lean LOADS. Nothing in Lean hashes anything: it is a label: what it is worth is what the hold of that sum in a sandbox is worth. -/
noncomputable def Tryd.pinned : Pinned := { name := "ytfpjdgkooikeoaadoor", sum := "e664afe1f113425105f56ac39be97139d5cabfbfc806e9bcbcae486d2e2b8a05", checked := Tryd.checked }
namespace Rows
def none {H : Type} : Left H := { results := [], args := [] }

/- WHAT THE LISTED PACKAGE-LEVEL VARIABLES READ AS WHEN THE CALL BEGINS. Each datum BY PROGRAM (the guide's laid-datum.mjs) off the statement by which the dump's own 'gosem.cut.vars' lays the variable. In a bare row this is a premise. The card (YtfpjdgkooikeoaaDoorCards.lean) ties it to the program's text. -/
def laid_flotilla_seal_halves {H : Type} : DataW H := .agg [.lit (.int .u32 0), .lit (.int .u32 274646895), .lit (.int .u32 549293790), .lit (.int .u32 820201905), .lit (.int .u32 1098587580), .lit (.int .u32 1361435347), .lit (.int .u32 1640403810), .lit (.int .u32 1905808397), .lit (.int .u32 2197175160), .lit (.int .u32 2460548119), .lit (.int .u32 2722870694), .lit (.int .u32 2987750089), .lit (.int .u32 3280807620), .lit (.int .u32 3553878443), .lit (.int .u32 3811616794), .lit (.int .u32 4084100981)]

/-- 'flotillalaw02.SealSum': WHATEVER THE INPUT: true; the input reads as it did. -/
def sealSumSpec : ChangeSpec := { name := "sealSum", fn := fun _ => fun
  | [d1, d2] => { results := [.lit (.bool true)], args := [d1, d2] }
  | _ => none }
def sealSumRow : OpenClaim := { program := "ytfpjdgkooikeoaadoor", sum := "e664afe1f113425105f56ac39be97139d5cabfbfc806e9bcbcae486d2e2b8a05", func := "flotilla/flotillalaw02.SealSum", spec := "sealSum", named := ["flotilla/seal.halves"], apart := false, laid := [("flotilla/seal.halves", laid_flotilla_seal_halves)] }
def SealSumSaid : Prop := sealSumRow.holds Tryd.pinned (OpenSpec.ofChange sealSumSpec)

/-- ITS FALSE NEIGHBOUR: 'it returns false'. Refute it at one input. -/
def sealSumWrong : ChangeSpec := { name := "sealSum", fn := fun _ => fun
  | [d1, d2] => { results := [.lit (.bool false)], args := [d1, d2] }
  | _ => none }
def SealSumWrongFalsely : Prop := sealSumRow.holds Tryd.pinned (OpenSpec.ofChange sealSumWrong)

/-- 'flotillalaw02.SealMakes': WHATEVER THE INPUT: true; the input reads as it did. -/
def sealMakesSpec : ChangeSpec := { name := "sealMakes", fn := fun _ => fun
  | [d] => { results := [.lit (.bool true)], args := [d] }
  | _ => none }
def sealMakesRow : OpenClaim := { program := "ytfpjdgkooikeoaadoor", sum := "e664afe1f113425105f56ac39be97139d5cabfbfc806e9bcbcae486d2e2b8a05", func := "flotilla/flotillalaw02.SealMakes", spec := "sealMakes", named := ["flotilla/seal.halves"], apart := false, laid := [("flotilla/seal.halves", laid_flotilla_seal_halves)] }
def SealMakesSaid : Prop := sealMakesRow.holds Tryd.pinned (OpenSpec.ofChange sealMakesSpec)

/-- ITS FALSE NEIGHBOUR: 'it returns false'. Refute it at one input. -/
def sealMakesWrong : ChangeSpec := { name := "sealMakes", fn := fun _ => fun
  | [d] => { results := [.lit (.bool false)], args := [d] }
  | _ => none }
def SealMakesWrongFalsely : Prop := sealMakesRow.holds Tryd.pinned (OpenSpec.ofChange sealMakesWrong)

/-- 'flotillalaw02.SealOpens': WHATEVER THE INPUT: true; the input reads as it did. -/
def sealOpensSpec : ChangeSpec := { name := "sealOpens", fn := fun _ => fun
  | [d] => { results := [.lit (.bool true)], args := [d] }
  | _ => none }
def sealOpensRow : OpenClaim := { program := "ytfpjdgkooikeoaadoor", sum := "e664afe1f113425105f56ac39be97139d5cabfbfc806e9bcbcae486d2e2b8a05", func := "flotilla/flotillalaw02.SealOpens", spec := "sealOpens", named := ["flotilla/seal.halves"], apart := false, laid := [("flotilla/seal.halves", laid_flotilla_seal_halves)] }
def SealOpensSaid : Prop := sealOpensRow.holds Tryd.pinned (OpenSpec.ofChange sealOpensSpec)

/-- ITS FALSE NEIGHBOUR: 'it returns false'. Refute it at one input. -/
def sealOpensWrong : ChangeSpec := { name := "sealOpens", fn := fun _ => fun
  | [d] => { results := [.lit (.bool false)], args := [d] }
  | _ => none }
def SealOpensWrongFalsely : Prop := sealOpensRow.holds Tryd.pinned (OpenSpec.ofChange sealOpensWrong)

/-- 'flotillalaw02.SealBack': WHATEVER THE INPUT: true; the input reads as it did. -/
def sealBackSpec : ChangeSpec := { name := "sealBack", fn := fun _ => fun
  | [d] => { results := [.lit (.bool true)], args := [d] }
  | _ => none }
def sealBackRow : OpenClaim := { program := "ytfpjdgkooikeoaadoor", sum := "e664afe1f113425105f56ac39be97139d5cabfbfc806e9bcbcae486d2e2b8a05", func := "flotilla/flotillalaw02.SealBack", spec := "sealBack", named := ["flotilla/seal.halves"], apart := false, laid := [("flotilla/seal.halves", laid_flotilla_seal_halves)] }
def SealBackSaid : Prop := sealBackRow.holds Tryd.pinned (OpenSpec.ofChange sealBackSpec)

/-- ITS FALSE NEIGHBOUR: 'it returns false'. Refute it at one input. -/
def sealBackWrong : ChangeSpec := { name := "sealBack", fn := fun _ => fun
  | [d] => { results := [.lit (.bool false)], args := [d] }
  | _ => none }
def SealBackWrongFalsely : Prop := sealBackRow.holds Tryd.pinned (OpenSpec.ofChange sealBackWrong)

/-- 'flotillalaw02.SealTold': WHATEVER THE INPUT: true; the input reads as it did. -/
def sealToldSpec : ChangeSpec := { name := "sealTold", fn := fun _ => fun
  | [d1, d2, d3] => { results := [.lit (.bool true)], args := [d1, d2, d3] }
  | _ => none }
def sealToldRow : OpenClaim := { program := "ytfpjdgkooikeoaadoor", sum := "e664afe1f113425105f56ac39be97139d5cabfbfc806e9bcbcae486d2e2b8a05", func := "flotilla/flotillalaw02.SealTold", spec := "sealTold", named := ["flotilla/seal.halves"], apart := false, laid := [("flotilla/seal.halves", laid_flotilla_seal_halves)] }
def SealToldSaid : Prop := sealToldRow.holds Tryd.pinned (OpenSpec.ofChange sealToldSpec)

/-- ITS FALSE NEIGHBOUR: 'it returns false'. Refute it at one input. -/
def sealToldWrong : ChangeSpec := { name := "sealTold", fn := fun _ => fun
  | [d1, d2, d3] => { results := [.lit (.bool false)], args := [d1, d2, d3] }
  | _ => none }
def SealToldWrongFalsely : Prop := sealToldRow.holds Tryd.pinned (OpenSpec.ofChange sealToldWrong)

/-- 'flotillalaw02.SealBurst': WHATEVER THE INPUT: true; the input reads as it did. -/
def sealBurstSpec : ChangeSpec := { name := "sealBurst", fn := fun _ => fun
  | [d] => { results := [.lit (.bool true)], args := [d] }
  | _ => none }
def sealBurstRow : OpenClaim := { program := "ytfpjdgkooikeoaadoor", sum := "e664afe1f113425105f56ac39be97139d5cabfbfc806e9bcbcae486d2e2b8a05", func := "flotilla/flotillalaw02.SealBurst", spec := "sealBurst", named := ["flotilla/seal.halves"], apart := false, laid := [("flotilla/seal.halves", laid_flotilla_seal_halves)] }
def SealBurstSaid : Prop := sealBurstRow.holds Tryd.pinned (OpenSpec.ofChange sealBurstSpec)

/-- ITS FALSE NEIGHBOUR: 'it returns false'. Refute it at one input. -/
def sealBurstWrong : ChangeSpec := { name := "sealBurst", fn := fun _ => fun
  | [d] => { results := [.lit (.bool false)], args := [d] }
  | _ => none }
def SealBurstWrongFalsely : Prop := sealBurstRow.holds Tryd.pinned (OpenSpec.ofChange sealBurstWrong)

/-- 'flotillalaw02.SealCuts': WHATEVER THE INPUT: true; the input reads as it did. -/
def sealCutsSpec : ChangeSpec := { name := "sealCuts", fn := fun _ => fun
  | [d1, d2, d3] => { results := [.lit (.bool true)], args := [d1, d2, d3] }
  | _ => none }
def sealCutsRow : OpenClaim := { program := "ytfpjdgkooikeoaadoor", sum := "e664afe1f113425105f56ac39be97139d5cabfbfc806e9bcbcae486d2e2b8a05", func := "flotilla/flotillalaw02.SealCuts", spec := "sealCuts", named := ["flotilla/seal.halves"], apart := false, laid := [("flotilla/seal.halves", laid_flotilla_seal_halves)] }
def SealCutsSaid : Prop := sealCutsRow.holds Tryd.pinned (OpenSpec.ofChange sealCutsSpec)

/-- ITS FALSE NEIGHBOUR: 'it returns false'. Refute it at one input. -/
def sealCutsWrong : ChangeSpec := { name := "sealCuts", fn := fun _ => fun
  | [d1, d2, d3] => { results := [.lit (.bool false)], args := [d1, d2, d3] }
  | _ => none }
def SealCutsWrongFalsely : Prop := sealCutsRow.holds Tryd.pinned (OpenSpec.ofChange sealCutsWrong)

/-- 'flotillalaw02.SealRow': WHATEVER THE INPUT: true; the input reads as it did. -/
def sealRowSpec : ChangeSpec := { name := "sealRow", fn := fun _ => fun
  | [d1, d2] => { results := [.lit (.bool true)], args := [d1, d2] }
  | _ => none }
def sealRowRow : OpenClaim := { program := "ytfpjdgkooikeoaadoor", sum := "e664afe1f113425105f56ac39be97139d5cabfbfc806e9bcbcae486d2e2b8a05", func := "flotilla/flotillalaw02.SealRow", spec := "sealRow", named := ["flotilla/seal.halves"], apart := false, laid := [("flotilla/seal.halves", laid_flotilla_seal_halves)] }
def SealRowSaid : Prop := sealRowRow.holds Tryd.pinned (OpenSpec.ofChange sealRowSpec)

/-- ITS FALSE NEIGHBOUR: 'it returns false'. Refute it at one input. -/
def sealRowWrong : ChangeSpec := { name := "sealRow", fn := fun _ => fun
  | [d1, d2] => { results := [.lit (.bool false)], args := [d1, d2] }
  | _ => none }
def SealRowWrongFalsely : Prop := sealRowRow.holds Tryd.pinned (OpenSpec.ofChange sealRowWrong)

/- THE SECOND FORM. 'bulk': how many values and letters a reading holds, each counted each time it is reached (what is shared counts as often as it is met; a slice's spare places count too). A statement '..UptoSaid' is the law's where the arguments, and the package variables that the reading takes, are together of bulk at most 1048576: NARROWER than '..Said'. Prove '..Said' where nothing that the law and all that it calls make is longer than what came in: it says more and counts as full. Else prove '..UptoSaid'. A law counts once. -/
mutual
def uptoBulk {H : Type} : DataW H → Nat
  | .lit (.string bytes) => bytes.length + 1
  | .lit _ => 1
  | .nil => 1
  | .ptr d => uptoBulk d + 1
  | .slice elems spare => uptoBulkAll elems + uptoBulkAll spare + 1
  | .agg parts => uptoBulkAll parts + 1
  | .iface _ d => uptoBulk d + 1
  | .map entries => uptoBulkEntries entries + 1
  | .held _ => 1
def uptoBulkAll {H : Type} : List (DataW H) → Nat
  | [] => 0
  | d :: r => uptoBulk d + uptoBulkAll r
def uptoBulkEntries {H : Type} : List (Lit × DataW H) → Nat
  | [] => 0
  | x :: r => uptoBulkEntry x + uptoBulkEntries r
def uptoBulkEntry {H : Type} : Lit × DataW H → Nat
  | (.string bytes, d) => bytes.length + uptoBulk d + 1
  | (_, d) => uptoBulk d + 1
 end
def uptoSmall : (H : Type) → List (DataW H) → Bool := fun _ ds => decide (uptoBulkAll ds ≤ 1048576)
def OpenSpec.upto (s : _root_.Go.ChangeSpec) : _root_.Go.OpenSpec := { _root_.Go.OpenSpec.ofChange s with cond := some uptoSmall }

/-- 'flotillalaw02.SealSum', WHERE WHAT IT READS IS OF BULK AT MOST 1048576: true; the input reads as it did. -/
def sealSumUptoRow : OpenClaim := { program := "ytfpjdgkooikeoaadoor", sum := "e664afe1f113425105f56ac39be97139d5cabfbfc806e9bcbcae486d2e2b8a05", func := "flotilla/flotillalaw02.SealSum", spec := "sealSum", named := ["flotilla/seal.halves"], apart := false, laid := [("flotilla/seal.halves", laid_flotilla_seal_halves)], narrowed := true }
def SealSumUptoSaid : Prop := sealSumUptoRow.holds Tryd.pinned (OpenSpec.upto sealSumSpec)

/-- 'flotillalaw02.SealMakes', WHERE WHAT IT READS IS OF BULK AT MOST 1048576: true; the input reads as it did. -/
def sealMakesUptoRow : OpenClaim := { program := "ytfpjdgkooikeoaadoor", sum := "e664afe1f113425105f56ac39be97139d5cabfbfc806e9bcbcae486d2e2b8a05", func := "flotilla/flotillalaw02.SealMakes", spec := "sealMakes", named := ["flotilla/seal.halves"], apart := false, laid := [("flotilla/seal.halves", laid_flotilla_seal_halves)], narrowed := true }
def SealMakesUptoSaid : Prop := sealMakesUptoRow.holds Tryd.pinned (OpenSpec.upto sealMakesSpec)

/-- 'flotillalaw02.SealOpens', WHERE WHAT IT READS IS OF BULK AT MOST 1048576: true; the input reads as it did. -/
def sealOpensUptoRow : OpenClaim := { program := "ytfpjdgkooikeoaadoor", sum := "e664afe1f113425105f56ac39be97139d5cabfbfc806e9bcbcae486d2e2b8a05", func := "flotilla/flotillalaw02.SealOpens", spec := "sealOpens", named := ["flotilla/seal.halves"], apart := false, laid := [("flotilla/seal.halves", laid_flotilla_seal_halves)], narrowed := true }
def SealOpensUptoSaid : Prop := sealOpensUptoRow.holds Tryd.pinned (OpenSpec.upto sealOpensSpec)

/-- 'flotillalaw02.SealBack', WHERE WHAT IT READS IS OF BULK AT MOST 1048576: true; the input reads as it did. -/
def sealBackUptoRow : OpenClaim := { program := "ytfpjdgkooikeoaadoor", sum := "e664afe1f113425105f56ac39be97139d5cabfbfc806e9bcbcae486d2e2b8a05", func := "flotilla/flotillalaw02.SealBack", spec := "sealBack", named := ["flotilla/seal.halves"], apart := false, laid := [("flotilla/seal.halves", laid_flotilla_seal_halves)], narrowed := true }
def SealBackUptoSaid : Prop := sealBackUptoRow.holds Tryd.pinned (OpenSpec.upto sealBackSpec)

/-- 'flotillalaw02.SealTold', WHERE WHAT IT READS IS OF BULK AT MOST 1048576: true; the input reads as it did. -/
def sealToldUptoRow : OpenClaim := { program := "ytfpjdgkooikeoaadoor", sum := "e664afe1f113425105f56ac39be97139d5cabfbfc806e9bcbcae486d2e2b8a05", func := "flotilla/flotillalaw02.SealTold", spec := "sealTold", named := ["flotilla/seal.halves"], apart := false, laid := [("flotilla/seal.halves", laid_flotilla_seal_halves)], narrowed := true }
def SealToldUptoSaid : Prop := sealToldUptoRow.holds Tryd.pinned (OpenSpec.upto sealToldSpec)

/-- 'flotillalaw02.SealBurst', WHERE WHAT IT READS IS OF BULK AT MOST 1048576: true; the input reads as it did. -/
def sealBurstUptoRow : OpenClaim := { program := "ytfpjdgkooikeoaadoor", sum := "e664afe1f113425105f56ac39be97139d5cabfbfc806e9bcbcae486d2e2b8a05", func := "flotilla/flotillalaw02.SealBurst", spec := "sealBurst", named := ["flotilla/seal.halves"], apart := false, laid := [("flotilla/seal.halves", laid_flotilla_seal_halves)], narrowed := true }
def SealBurstUptoSaid : Prop := sealBurstUptoRow.holds Tryd.pinned (OpenSpec.upto sealBurstSpec)

/-- 'flotillalaw02.SealCuts', WHERE WHAT IT READS IS OF BULK AT MOST 1048576: true; the input reads as it did. -/
def sealCutsUptoRow : OpenClaim := { program := "ytfpjdgkooikeoaadoor", sum := "e664afe1f113425105f56ac39be97139d5cabfbfc806e9bcbcae486d2e2b8a05", func := "flotilla/flotillalaw02.SealCuts", spec := "sealCuts", named := ["flotilla/seal.halves"], apart := false, laid := [("flotilla/seal.halves", laid_flotilla_seal_halves)], narrowed := true }
def SealCutsUptoSaid : Prop := sealCutsUptoRow.holds Tryd.pinned (OpenSpec.upto sealCutsSpec)

/-- 'flotillalaw02.SealRow', WHERE WHAT IT READS IS OF BULK AT MOST 1048576: true; the input reads as it did. -/
def sealRowUptoRow : OpenClaim := { program := "ytfpjdgkooikeoaadoor", sum := "e664afe1f113425105f56ac39be97139d5cabfbfc806e9bcbcae486d2e2b8a05", func := "flotilla/flotillalaw02.SealRow", spec := "sealRow", named := ["flotilla/seal.halves"], apart := false, laid := [("flotilla/seal.halves", laid_flotilla_seal_halves)], narrowed := true }
def SealRowUptoSaid : Prop := sealRowUptoRow.holds Tryd.pinned (OpenSpec.upto sealRowSpec)

end Rows
end Go.Proofs.YtfpjdgkooikeoaaDoor
