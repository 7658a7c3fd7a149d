/- The law ChooseTurned, as its row asks for it. Conditions: none. -/
import Derived.Test.YtobnehbcnlhchaaTrT
namespace Go.Proofs.Ytobnehbcnlhchaa.Tu
open Go.RowKit Go.Proofs.YtobnehbcnlhchaaW.PrintWords Go.Proofs.Ytobnehbcnlhchaa.PChooseTurned
theorem turned_row (w : World) (n : Int) (_ : (Lit.int .i64 n).wf = true) (me : Int) (_ : (Lit.int .i64 me).wf = true) (floor : Int) (_ : (Lit.int .i64 floor).wf = true)
    (A : Option Addr) (c : Nat) (l : List S62) (hA : Kd.C k62 w A l.length l) (h1 : l.length ≤ c) (h2 : c * 32 ≤ 140737488351232) (_ : ∀ p ∈ l, Opn.Wf62 p)
    (B : Option Addr) (cb : Nat) (ws : List S66) (hB : Kd.C k66 w B ws.length ws) (h4 : ws.length ≤ cb) (h5 : cb * 24 ≤ 140737488351232) (_ : ∀ p ∈ ws, Opn.Wf66 p)
    (Ap : Option Addr) (cp : Nat) (ps : List Int) (hP : Kd.C Opn.kI w Ap ps.length ps) (h7 : ps.length ≤ cp) (h8 : cp * 8 ≤ 140737488351232) (h9 : ∀ p ∈ ps, Opn.WfI p) :
    Calls Try.prog 5 #[.int .i64 n, .int .i64 me, .int .i64 floor, .slice A l.length c, .slice B ws.length cb, .slice Ap ps.length cp] w fun e w' => e = .returned (.bool true) ∧ Below w.heap.size w w' :=
  turned_walk n me floor A c l B cb ws Ap cp ps w hA h1 h2 hB h4 h5 hP (by omega) h9
end Go.Proofs.Ytobnehbcnlhchaa.Tu
