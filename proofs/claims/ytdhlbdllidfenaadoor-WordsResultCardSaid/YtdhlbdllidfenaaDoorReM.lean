/- Words: how a result that came in lies. Conditions: none. -/
import Derived.Test.YtdhlbdllidfenaaDoorReC
namespace Go.Proofs.YtdhlbdllidfenaaDoor.Opn
open Go.ChangeShapes Go.WideShapes Go.ChangeAt Go.RowKit Go.Deep Go.Proofs.YtdhlbdllidfenaaDoor.Mem
set_option linter.unusedVariables false
theorem one_strs {H : Type} {enc : TypeId × Value → H} {W : World} {n : Nat} {cv : Value} {y : DataW H × List MemPlace} (hS : Sz Tryd.prog 26 y.1) (h : DataW.trod enc Tryd.prog W 0 (fun _ => true) true n 26 [cv] = some y) :
    ∃ (A : Option Addr) (l : List (List UInt8)) (c : Nat), cv = .slice A l.length c ∧ (Wd.TR Any W A l ∧ ∀ x ∈ l, x.length ≤ 140737488351232) ∧ l.length ≤ c ∧ c * 16 ≤ 140737488351232 := by
  have hs : ∃ A l c, cv = .slice A l c := by
    rcases open_slice Tryd.underlying26 h with ⟨hcs, _⟩ | ⟨a, l, c, m, n, D, Pl, hcs, _⟩
    · simp at hcs; exact ⟨_, _, _, hcs⟩
    · simp at hcs; exact ⟨_, _, _, hcs⟩
  obtain ⟨A, l, cp, rfl⟩ := hs
  obtain ⟨l, rfl, h1, h2, h3⟩ := strs (enc := enc) (W := W) (dd := y.1) (ps := y.2) hS ⟨n, h⟩
  exact ⟨A, l, cp, rfl, h1, h2, h3⟩
set_option linter.constructorNameAsVariable false in
set_option maxRecDepth 100000 in
theorem ress {H : Type} {enc : TypeId × Value → H} {W : World} {b0 : Nat} {v : Value} {d : DataW H} {ps : List MemPlace} (hv : Value.okWide Tryd.prog W .any b0 28 v) (hS : Sz Tryd.prog 28 d) (h : DataW.Trod enc Tryd.prog W 0 (fun _ => true) true 28 v d ps) :
    ∃ (x : Wd.RV) (A : Option Addr) (c : Nat), v = x.v A x.items.length c ∧ (Wd.TR Any W A x.items ∧ ∀ y ∈ x.items, y.length ≤ 140737488351232) ∧ x.items.length ≤ c ∧ c * 16 ≤ 140737488351232 := by
  obtain ⟨cs, rfl, hsz⟩ := okWide_struct Tryd.underlying28 hv
  rw [show Tryd.prog.cellsOf 28 = 3 by kernel_rfl] at hsz
  obtain ⟨l⟩ := cs
  match l, hsz with
  | [c0, c1, c2], _ =>
    obtain ⟨fuel, hf⟩ := h
    obtain ⟨xs, n, _, hx, _, hlen, hF⟩ := DataW.trod_struct Tryd.underlying28 hf
    have e3 : Tryd.prog.cellsOf 3 = 1 := by kernel_rfl
    have e4 : Tryd.prog.cellsOf 26 = 1 := by kernel_rfl
    have h0 := hF 0 _ rfl
    have h1 := hF 1 _ rfl
    have h2 := hF 2 _ rfl
    match xs, hlen with
    | [y0, y1, y2], _ =>
      simp [Value.cells, e3, e4] at h0 h1 h2
      obtain ⟨a, q0, _, _⟩ := DataW.trod_int Tryd.underlying3 h0
      obtain ⟨b, q1, _, _⟩ := DataW.trod_int Tryd.underlying3 h1
      simp at q0 q1
      subst q0 q1
      obtain ⟨rfl, _⟩ := Prod.mk.inj hx
      obtain ⟨A, x, c, rfl, g1⟩ := one_strs (sz_agg Tryd.underlying28 hS 2 _ _ rfl rfl) h2
      exact ⟨⟨a, b, x⟩, A, c, rfl, g1⟩
end Go.Proofs.YtdhlbdllidfenaaDoor.Opn
