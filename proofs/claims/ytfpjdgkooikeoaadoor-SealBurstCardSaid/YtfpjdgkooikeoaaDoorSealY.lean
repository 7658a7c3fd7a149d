/- How the argument of SealBurst lies. Conditions: none. -/
import Derived.Test.YtfpjdgkooikeoaaDoorSealX
namespace Go.Proofs.YtfpjdgkooikeoaaDoor.Opn
open Go.ChangeShapes Go.WideShapes Go.ChangeAt Go.RowKit Go.Deep Go.Proofs.YtfpjdgkooikeoaaDoor.Mem Go.Proofs.YtfpjdgkooikeoaaDoor.Sl
set_option linter.unusedVariables false
structure BurstV where (P : Option Addr) (pc : Nat) (p : List UInt8) (hb bb : Int) (hm bm : Nat)
def BurstV.v (q : BurstV) : Value := .agg #[.slice q.P q.p.length q.pc, .int .i64 q.hb, .int .i64 q.bb, .int .u32 (q.hm : Int), .int .u32 (q.bm : Int)]
set_option linter.constructorNameAsVariable false in
set_option maxRecDepth 100000 in
theorem bursts {H : Type} {enc : TypeId × Value → H} {W : World} {b0 : Nat} {v : Value} {d : DataW H} {ps : List MemPlace} (hv : Value.okWide Tryd.prog W .any b0 38 v) (hS : Sz Tryd.prog 38 d) (h : DataW.Trod enc Tryd.prog W 0 (fun _ => true) true 38 v d ps) :
    ∃ q : BurstV, v = q.v ∧ GoodB W q.P q.p q.pc ∧ q.hm < 4294967296 ∧ q.bm < 4294967296 := by
  obtain ⟨cs, rfl, hsz⟩ := okWide_struct Tryd.underlying38 hv
  rw [show Tryd.prog.cellsOf 38 = 5 by kernel_rfl] at hsz
  obtain ⟨l⟩ := cs
  match l, hsz with
  | [c0, c1, c2, c3, c4], _ =>
    obtain ⟨fuel, hf⟩ := h
    obtain ⟨xs, n, _, hx, _, hlen, hF⟩ := DataW.trod_struct Tryd.underlying38 hf
    have e3 : Tryd.prog.cellsOf 3 = 1 := by kernel_rfl
    have e4 : Tryd.prog.cellsOf 22 = 1 := by kernel_rfl
    have e5 : Tryd.prog.cellsOf 25 = 1 := by kernel_rfl
    have h0 := hF 0 _ rfl
    have h1 := hF 1 _ rfl
    have h2 := hF 2 _ rfl
    have h3 := hF 3 _ rfl
    have h4 := hF 4 _ rfl
    match xs, hlen with
    | [y0, y1, y2, y3, y4], _ =>
      simp [Value.cells, e3, e4, e5] at h0 h1 h2 h3 h4
      obtain ⟨a1, q1, _, _⟩ := DataW.trod_int Tryd.underlying3 h1
      obtain ⟨a2, q2, _, _⟩ := DataW.trod_int Tryd.underlying3 h2
      obtain ⟨a3, q3, _, w3⟩ := DataW.trod_int Tryd.underlying25 h3
      obtain ⟨a4, q4, _, w4⟩ := DataW.trod_int Tryd.underlying25 h4
      simp at q1 q2 q3 q4
      subst q1 q2 q3 q4
      have b3 : 0 ≤ a3 ∧ a3 ≤ 4294967295 := by simpa [Lit.wf, IntKind.min, IntKind.max, IntKind.signed, IntKind.bits] using w3
      have b4 : 0 ≤ a4 ∧ a4 ≤ 4294967295 := by simpa [Lit.wf, IntKind.min, IntKind.max, IntKind.signed, IntKind.bits] using w4
      obtain ⟨m3, rfl⟩ := Int.eq_ofNat_of_zero_le b3.1
      obtain ⟨m4, rfl⟩ := Int.eq_ofNat_of_zero_le b4.1
      obtain ⟨rfl, _⟩ := Prod.mk.inj hx
      obtain ⟨P, p, pc, rfl, g1⟩ := one_bytes (sz_agg Tryd.underlying38 hS 0 _ _ rfl rfl) h0
      exact ⟨⟨P, pc, p, a1, a2, m3, m4⟩, rfl, g1, by show m3 < 4294967296; omega, by show m4 < 4294967296; omega⟩
end Go.Proofs.YtfpjdgkooikeoaaDoor.Opn
namespace Go.Proofs.YtfpjdgkooikeoaaDoor.Sl
open Go.RowKit Go.Proofs.YtfpjdgkooikeoaaDoor.Mem
theorem burst_row (w : World) (hT : Tab w) (q : Opn.BurstV) (g1 : Opn.GoodB w q.P q.p q.pc) (h3 : q.hm < 4294967296) (h4 : q.bm < 4294967296) :
    Calls Tryd.prog 8 #[q.v] w fun e w' => e = .returned (.bool true) ∧ Below w.heap.size w w' := by
  obtain ⟨a1, b1, c1⟩ := g1
  exact (burst_walk q.P _ q.pc q.hb q.bb q.hm q.bm q.p w rfl (by omega) h3 h4 a1 hT).mono fun _ _ ⟨h, h'⟩ => ⟨h, h'.to⟩
end Go.Proofs.YtfpjdgkooikeoaaDoor.Sl
