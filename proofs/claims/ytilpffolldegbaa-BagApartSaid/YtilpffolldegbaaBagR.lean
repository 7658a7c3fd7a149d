/- How the argument of BagApart lies. Conditions: none. -/
import Derived.Test.YtilpffolldegbaaBagZ
namespace Go.Proofs.Ytilpffolldegbaa.Opn
open Go.ChangeShapes Go.WideShapes Go.ChangeAt Go.RowKit Go.Deep Go.Proofs.Ytilpffolldegbaa.Mem Go.Proofs.Ytilpffolldegbaa.Bg
set_option linter.unusedVariables false
structure ApV where (room : Int) (A B C : Option Addr) (c d e : Nat) (x y z : List OpV)
def ApV.v (q : ApV) : Value := .agg #[.int .i64 q.room, .slice q.A q.x.length q.c, .slice q.B q.y.length q.d, .slice q.C q.z.length q.e]
def Good (w : World) (A : Option Addr) (l : List OpV) (c : Nat) : Prop := (OR w A l ∧ ∀ o ∈ l, o.data.length ≤ 140737488351232) ∧ l.length ≤ c ∧ c * 64 ≤ 140737488351232
theorem Good.scr {w : World} {A : Option Addr} {l : List OpV} {c : Nat} (h : Good w A l c) : Scr w A l := ⟨h.1.1, by have := h.2.1; have := h.2.2; omega, fun o ho => by have := h.1.2 o ho; omega⟩
theorem one_ops {H : Type} {enc : TypeId × Value → H} {W : World} {n : Nat} {cv : Value} {y : DataW H × List MemPlace} (hS : Sz Try.prog 40 y.1) (h : DataW.trod enc Try.prog W 0 (fun _ => true) true n 40 [cv] = some y) :
    ∃ (A : Option Addr) (l : List OpV) (c : Nat), cv = .slice A l.length c ∧ Good W A l c := by
  have hs : ∃ A l c, cv = .slice A l c := by
    rcases open_slice Try.underlying40 h with ⟨hcs, _⟩ | ⟨a, l, c, m, n, D, Pl, hcs, _⟩
    · simp at hcs; exact ⟨_, _, _, hcs⟩
    · simp at hcs; exact ⟨_, _, _, hcs⟩
  obtain ⟨A, l, cp, rfl⟩ := hs
  obtain ⟨l, rfl, h1, h2, h3⟩ := ops (enc := enc) (W := W) (dd := y.1) (ps := y.2) hS ⟨n, h⟩
  exact ⟨A, l, cp, rfl, h1, h2, h3⟩
set_option linter.constructorNameAsVariable false in
set_option maxRecDepth 100000 in
theorem aparts {H : Type} {enc : TypeId × Value → H} {W : World} {b0 : Nat} {v : Value} {d : DataW H} {ps : List MemPlace} (hv : Value.okWide Try.prog W .any b0 55 v) (hS : Sz Try.prog 55 d) (h : DataW.Trod enc Try.prog W 0 (fun _ => true) true 55 v d ps) :
    ∃ q : ApV, v = q.v ∧ Good W q.A q.x q.c ∧ Good W q.B q.y q.d ∧ Good W q.C q.z q.e := by
  obtain ⟨cs, rfl, hsz⟩ := okWide_struct Try.underlying55 hv
  rw [show Try.prog.cellsOf 55 = 4 by kernel_rfl] at hsz
  obtain ⟨l⟩ := cs
  match l, hsz with
  | [c0, c1, c2, c3], _ =>
    obtain ⟨fuel, hf⟩ := h
    obtain ⟨xs, n, _, hx, _, hlen, hF⟩ := DataW.trod_struct Try.underlying55 hf
    have e3 : Try.prog.cellsOf 3 = 1 := by kernel_rfl
    have e4 : Try.prog.cellsOf 40 = 1 := by kernel_rfl
    have h0 := hF 0 _ rfl
    have h1 := hF 1 _ rfl
    have h2 := hF 2 _ rfl
    have h3 := hF 3 _ rfl
    match xs, hlen with
    | [y0, y1, y2, y3], _ =>
      simp [Value.cells, e3, e4] at h0 h1 h2 h3
      obtain ⟨a, q0, _, _⟩ := DataW.trod_int Try.underlying3 h0
      simp at q0
      subst q0
      obtain ⟨rfl, _⟩ := Prod.mk.inj hx
      obtain ⟨A, x, c, rfl, g1⟩ := one_ops (sz_agg Try.underlying55 hS 1 _ _ rfl rfl) h1
      obtain ⟨B, y, d, rfl, g2⟩ := one_ops (sz_agg Try.underlying55 hS 2 _ _ rfl rfl) h2
      obtain ⟨C, z, e, rfl, g3⟩ := one_ops (sz_agg Try.underlying55 hS 3 _ _ rfl rfl) h3
      exact ⟨⟨a, A, B, C, c, d, e, x, y, z⟩, rfl, g1, g2, g3⟩
end Go.Proofs.Ytilpffolldegbaa.Opn
namespace Go.Proofs.Ytilpffolldegbaa.Bg
open Go.RowKit Go.Proofs.Ytilpffolldegbaa.Mem
theorem apart_row (w : World) (q : Opn.ApV) (g1 : Opn.Good w q.A q.x q.c) (g2 : Opn.Good w q.B q.y q.d) (g3 : Opn.Good w q.C q.z q.e) :
    Calls Try.prog 6 #[q.v] w fun e w' => e = .returned (.bool true) ∧ Below w.heap.size w w' :=
  (apart_walk q.room q.A q.B q.C q.c q.d q.e q.x q.y q.z w g1.scr g2.scr g3.scr).mono fun _ _ ⟨h, h'⟩ => ⟨h, h'.to⟩
end Go.Proofs.Ytilpffolldegbaa.Bg
