/- How the arguments of SealBack and SealBurst lie. Conditions: none. -/
import Derived.Test.YtfpjdgkooikeoaaDoorSealP
import Derived.Test.YtfpjdgkooikeoaaDoorOpn
namespace Go.Proofs.YtfpjdgkooikeoaaDoor.Opn
open Go.ChangeShapes Go.WideShapes Go.ChangeAt Go.RowKit Go.Deep Go.Proofs.YtfpjdgkooikeoaaDoor.Mem Go.Proofs.YtfpjdgkooikeoaaDoor.Sl
set_option linter.unusedVariables false
def GoodB (w : World) (A : Option Addr) (l : List UInt8) (c : Nat) : Prop := BR Any w A l ∧ l.length ≤ c ∧ c ≤ 140737488351232
theorem one_bytes {H : Type} {enc : TypeId × Value → H} {W : World} {n : Nat} {cv : Value} {y : DataW H × List MemPlace} (hS : Sz Tryd.prog 22 y.1) (h : DataW.trod enc Tryd.prog W 0 (fun _ => true) true n 22 [cv] = some y) :
    ∃ (A : Option Addr) (l : List UInt8) (c : Nat), cv = .slice A l.length c ∧ GoodB W A l c := by
  have hs : ∃ A l c, cv = .slice A l c := by
    rcases open_slice Tryd.underlying22 h with ⟨hcs, _⟩ | ⟨a, l, c, m, n, D, Pl, hcs, _⟩
    · simp at hcs; exact ⟨_, _, _, hcs⟩
    · simp at hcs; exact ⟨_, _, _, hcs⟩
  obtain ⟨A, l, cp, rfl⟩ := hs
  obtain ⟨l, rfl, h1, h2, h3⟩ := bytes (enc := enc) (W := W) (dd := y.1) (ps := y.2) hS ⟨n, h⟩
  exact ⟨A, l, cp, rfl, h1, h2, h3⟩
structure BackV where (P B R : Option Addr) (pc bc rc : Nat) (p b r : List UInt8) (cut : Int)
def BackV.v (q : BackV) : Value := .agg #[.slice q.P q.p.length q.pc, .slice q.B q.b.length q.bc, .slice q.R q.r.length q.rc, .int .i64 q.cut]
set_option linter.constructorNameAsVariable false in
set_option maxRecDepth 100000 in
theorem backs {H : Type} {enc : TypeId × Value → H} {W : World} {b0 : Nat} {v : Value} {d : DataW H} {ps : List MemPlace} (hv : Value.okWide Tryd.prog W .any b0 31 v) (hS : Sz Tryd.prog 31 d) (h : DataW.Trod enc Tryd.prog W 0 (fun _ => true) true 31 v d ps) :
    ∃ q : BackV, v = q.v ∧ GoodB W q.P q.p q.pc ∧ GoodB W q.B q.b q.bc ∧ GoodB W q.R q.r q.rc := by
  obtain ⟨cs, rfl, hsz⟩ := okWide_struct Tryd.underlying31 hv
  rw [show Tryd.prog.cellsOf 31 = 4 by kernel_rfl] at hsz
  obtain ⟨l⟩ := cs
  match l, hsz with
  | [c0, c1, c2, c3], _ =>
    obtain ⟨fuel, hf⟩ := h
    obtain ⟨xs, n, _, hx, _, hlen, hF⟩ := DataW.trod_struct Tryd.underlying31 hf
    have e3 : Tryd.prog.cellsOf 3 = 1 := by kernel_rfl
    have e4 : Tryd.prog.cellsOf 22 = 1 := by kernel_rfl
    have h0 := hF 0 _ rfl
    have h1 := hF 1 _ rfl
    have h2 := hF 2 _ rfl
    have h3 := hF 3 _ rfl
    match xs, hlen with
    | [y0, y1, y2, y3], _ =>
      simp [Value.cells, e3, e4] at h0 h1 h2 h3
      obtain ⟨a, q0, _, _⟩ := DataW.trod_int Tryd.underlying3 h3
      simp at q0
      subst q0
      obtain ⟨rfl, _⟩ := Prod.mk.inj hx
      obtain ⟨P, p, pc, rfl, g1⟩ := one_bytes (sz_agg Tryd.underlying31 hS 0 _ _ rfl rfl) h0
      obtain ⟨B, b, bc, rfl, g2⟩ := one_bytes (sz_agg Tryd.underlying31 hS 1 _ _ rfl rfl) h1
      obtain ⟨R, r, rc, rfl, g3⟩ := one_bytes (sz_agg Tryd.underlying31 hS 2 _ _ rfl rfl) h2
      exact ⟨⟨P, B, R, pc, bc, rc, p, b, r, a⟩, rfl, g1, g2, g3⟩
end Go.Proofs.YtfpjdgkooikeoaaDoor.Opn
namespace Go.Proofs.YtfpjdgkooikeoaaDoor.Sl
open Go.RowKit Go.Proofs.YtfpjdgkooikeoaaDoor.Mem
theorem back_row (w : World) (hT : Tab w) (q : Opn.BackV) (g1 : Opn.GoodB w q.P q.p q.pc) (g2 : Opn.GoodB w q.B q.b q.bc) (g3 : Opn.GoodB w q.R q.r q.rc) :
    Calls Tryd.prog 6 #[q.v] w fun e w' => e = .returned (.bool true) ∧ Below w.heap.size w w' := by
  obtain ⟨a1, b1, c1⟩ := g1
  obtain ⟨a2, b2, c2⟩ := g2
  obtain ⟨a3, b3, c3⟩ := g3
  exact (back_walk q.P q.B q.R _ _ _ q.pc q.bc q.rc q.cut q.p q.b q.r w rfl rfl rfl (by omega) (by omega) (by omega) b3 a1 a2 a3 hT).mono fun _ _ ⟨h, h'⟩ => ⟨h, h'.to⟩
end Go.Proofs.YtfpjdgkooikeoaaDoor.Sl
