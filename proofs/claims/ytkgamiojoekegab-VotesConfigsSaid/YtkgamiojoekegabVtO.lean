/- How a config lies that is handed in. Conditions: none. -/
import Derived.Test.YtkgamiojoekegabBeO
import Derived.Test.YtkgamiojoekegabVtF
namespace Go.Proofs.Ytkgamiojoekegab.Opn
open Go.RowKit Go.Proofs.YtkgamiojoekegabW.PrintWords Go.ChangeShapes Go.WideShapes Go.ChangeAt
set_option linter.unusedVariables false
structure Cfg where (a b c d e f g h i j : Int)
def Cfg.v (x : Cfg) : Value := .agg #[.int .i64 x.a, .int .i64 x.b, .int .i64 x.c, .int .i64 x.d, .int .i64 x.e, .int .i64 x.f, .int .i64 x.g, .int .i64 x.h, .int .i64 x.i, .int .i64 x.j]
set_option linter.constructorNameAsVariable false in
set_option maxRecDepth 100000 in
theorem agg54 {H : Type} {enc : TypeId × Value → H} {W : World} {b0 : Nat} {v : Value} {d : DataW H} {ps : List MemPlace} (hv : Value.okWide Try.prog W .any b0 54 v) (h : DataW.Trod enc Try.prog W 0 (fun _ => true) true 54 v d ps) :
    ∃ x : Cfg, v = x.v := by
  obtain ⟨cs, rfl, hsz⟩ := okWide_struct Try.underlying54 hv
  rw [show Try.prog.cellsOf 54 = 10 by kernel_rfl] at hsz
  obtain ⟨l⟩ := cs
  match l, hsz with
  | [c0, c1, c2, c3, c4, c5, c6, c7, c8, c9], _ =>
    obtain ⟨fuel, hf⟩ := h
    obtain ⟨xs, n, _, hx, _, hlen, hF⟩ := DataW.trod_struct Try.underlying54 hf
    have e3 : Try.prog.cellsOf 3 = 1 := by kernel_rfl
    have h0 := hF 0 _ rfl
    have h1 := hF 1 _ rfl
    have h2 := hF 2 _ rfl
    have h3 := hF 3 _ rfl
    have h4 := hF 4 _ rfl
    have h5 := hF 5 _ rfl
    have h6 := hF 6 _ rfl
    have h7 := hF 7 _ rfl
    have h8 := hF 8 _ rfl
    have h9 := hF 9 _ rfl
    match xs, hlen with
    | [y0, y1, y2, y3, y4, y5, y6, y7, y8, y9], _ =>
      simp [Value.cells, e3] at h0 h1 h2 h3 h4 h5 h6 h7 h8 h9
      obtain ⟨a, q0, _, _⟩ := DataW.trod_int Try.underlying3 h0
      obtain ⟨b, q1, _, _⟩ := DataW.trod_int Try.underlying3 h1
      obtain ⟨c, q2, _, _⟩ := DataW.trod_int Try.underlying3 h2
      obtain ⟨d, q3, _, _⟩ := DataW.trod_int Try.underlying3 h3
      obtain ⟨e, q4, _, _⟩ := DataW.trod_int Try.underlying3 h4
      obtain ⟨f, q5, _, _⟩ := DataW.trod_int Try.underlying3 h5
      obtain ⟨g, q6, _, _⟩ := DataW.trod_int Try.underlying3 h6
      obtain ⟨hh, q7, _, _⟩ := DataW.trod_int Try.underlying3 h7
      obtain ⟨i, q8, _, _⟩ := DataW.trod_int Try.underlying3 h8
      obtain ⟨j, q9, _, _⟩ := DataW.trod_int Try.underlying3 h9
      simp at q0 q1 q2 q3 q4 q5 q6 q7 q8 q9
      subst q0 q1 q2 q3 q4 q5 q6 q7 q8 q9
      exact ⟨⟨a, b, c, d, e, f, g, hh, i, j⟩, rfl⟩
end Go.Proofs.Ytkgamiojoekegab.Opn
namespace Go.Proofs.Ytkgamiojoekegab.Vt
open Go.RowKit
theorem configs_row (w : World) (x : Opn.Cfg) : Calls Try.prog 6 #[x.v] w fun e w' => e = .returned (.bool true) ∧ Below w.heap.size w w' := configs_walk x.a x.b x.c x.d x.e x.f x.g x.h x.i x.j w
end Go.Proofs.Ytkgamiojoekegab.Vt
