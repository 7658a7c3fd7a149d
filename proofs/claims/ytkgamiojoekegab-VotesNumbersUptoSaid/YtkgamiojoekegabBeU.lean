/- The law ChooseKeeps: the walk, as its row calls it; and how a list of numbers lies. Conditions: none. -/
import Derived.Test.YtkgamiojoekegabBeT
import Derived.Test.YtkgamiojoekegabBeO
namespace Go.Proofs.Ytkgamiojoekegab.Opn
open Go.RowKit Go.Proofs.YtkgamiojoekegabW.PrintWords Go.Proofs.Ytkgamiojoekegab.PChooseBest Go.ChangeShapes
def kI : Kd Int := Kd.int .i64
def WfI (p : Int) : Prop := (Lit.int .i64 p).wf = true
theorem elI {H : Type} {enc : TypeId × Value → H} {W : World} (n : Nat) (cs : List Value) (x : DataW H × List MemPlace) (hl : cs.length = 1) (h : DataW.trod enc Try.prog W 0 (fun _ => true) true n 3 cs = some x) :
    ∃ p : Int, kI.K W p cs ∧ WfI p := by
  match cs, hl with
  | [c0], _ =>
    obtain ⟨a, q0, _, wa⟩ := DataW.trod_int Try.underlying3 h
    simp at q0
    subst q0
    exact ⟨a, rfl, wa⟩
end Go.Proofs.Ytkgamiojoekegab.Opn
namespace Go.Proofs.Ytkgamiojoekegab.Be
open Go.RowKit Go.Proofs.YtkgamiojoekegabW.PrintWords Go.Proofs.Ytkgamiojoekegab.PChooseBest
theorem keeps_row (w : World) (a0 : Int) (w0 : (Lit.int .i64 a0).wf = true) (a1 : Int) (_w1 : (Lit.int .i64 a1).wf = true) (a2 : Int) (_w2 : (Lit.int .i64 a2).wf = true)
    (A : Option Addr) (c : Nat) (l : List S26) (hA : Kd.C k26 w A l.length l) (h1 : l.length ≤ c) (h2 : c * 32 ≤ 140737488351232) (_h3 : ∀ p ∈ l, Opn.Wf26 p)
    (Ap : Option Addr) (cp : Nat) (ps : List Int) (hP : Kd.C Opn.kI w Ap ps.length ps) (h4 : ps.length ≤ cp) (h5 : cp * 8 ≤ 140737488351232) (h6 : ∀ p ∈ ps, Opn.WfI p) :
    Calls Try.prog 4 #[.int .i64 a0, .int .i64 a1, .int .i64 a2, .slice A l.length c, .slice Ap ps.length cp] w fun e w' => e = .returned (.bool true) ∧ Below w.heap.size w w' :=
  keeps_walk a0 a1 a2 w0 A c l Ap cp ps w hA h1 h2 hP (by omega) h6
end Go.Proofs.Ytkgamiojoekegab.Be
