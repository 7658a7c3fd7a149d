/- How slices of ballots, witnesses, numbers that came in read as lists. Conditions: none. -/
import Derived.Test.YtobnehbcnlhchaaTrBR
import Derived.Test.YtobnehbcnlhchaaTrCR
import Derived.ProofKit
import Derived.OpenShut
import Derived.Deep.Slices
import Derived.Deep.Strs
import Derived.SizedLaws
import Derived.Lib.SmallJoins
namespace Go.Proofs.Ytobnehbcnlhchaa.Opn
open Go.ChangeShapes Go.WideShapes Go.ChangeAt Go.RowKit Go.Deep
open Go.Proofs.YtobnehbcnlhchaaW.PrintWords Go.Proofs.Ytobnehbcnlhchaa.PChooseTurned
set_option linter.unusedVariables false

section
variable {H : Type} {enc : TypeId × Value → H} {P : Program} {W : World}
/-- a slice whose elements are of a kind -/
theorem slice_kd {α : Type} (d : Kd α) (Wf : α → Prop) {t e : TypeId} (z : α) (ht : P.underlying t = some (.slice e)) (hc : P.cellsOf e = d.sz)
    (hel : ∀ n cs x, cs.length = d.sz → DataW.trod enc P W 0 (fun _ => true) true n e cs = some x → ∃ p, d.K W p cs ∧ Wf p)
    {A : Option Addr} {len cap : Nat} {dd : DataW H} {ps : List MemPlace} (h : DataW.Trod enc P W 0 (fun _ => true) true t (.slice A len cap) dd ps) :
    ∃ xs : List α, xs.length = len ∧ d.C W A len xs ∧ len ≤ cap ∧ cap ≤ maxLen ∧ (∀ p ∈ xs, Wf p) ∧ (dd = .nil ∧ cap = 0 ∧ A = none ∨ ∃ el sp, dd = .slice el sp ∧ el.length + sp.length = cap) := by
  obtain ⟨fuel, hf⟩ := h
  rcases open_slice ht hf with ⟨hcs, hx⟩ | ⟨a, l, c, m, n, D, Pl, hcs, _, hl, hm, hmm, hx, hi⟩
  · simp [Value.cells] at hcs
    obtain ⟨rfl, rfl, rfl⟩ := hcs
    obtain ⟨rfl, rfl⟩ := Prod.mk.inj hx
    exact ⟨[], rfl, ⟨rfl, by omega, fun h => absurd h (by omega)⟩, Nat.le_refl _, Nat.zero_le _, by simp, .inl ⟨rfl, rfl, rfl⟩⟩
  · simp [Value.cells] at hcs
    obtain ⟨rfl, rfl, rfl⟩ := hcs
    obtain ⟨rfl, rfl⟩ := Prod.mk.inj hx
    simp only [if_true] at hmm
    subst hmm
    haveI : Inhabited α := ⟨z⟩
    obtain ⟨f, hfn⟩ := choose_lt (α := α) (n := len) (p := fun i p => Wf p ∧ ∃ cs, cs.length = d.sz ∧ d.K W p cs ∧ ∀ j u, cs[j]? = some u → W.cell? (a.add (i * d.sz + j)) = some u) (fun i hi' => by
      obtain ⟨cs', h1, h2⟩ := hi i (by omega)
      obtain ⟨_, hlen, hcell⟩ := World.cells?_some h1
      rw [hc] at hlen hcell
      obtain ⟨p, hk, hw⟩ := hel n cs' _ hlen h2
      refine ⟨p, hw, cs', hlen, hk, fun j u hj => ?_⟩
      have hjl : j < d.sz := by rw [← hlen]; exact (List.getElem?_eq_some_iff.1 hj).1
      rw [← Deep.add_add, hcell j hjl, hj])
    refine ⟨(List.range len).map f, by simp, ⟨by simp, by unfold maxLen at hm; omega, fun _ => ⟨a, rfl, fun j p hj => ?_⟩⟩, hl, hm, ?_, .inr ⟨_, _, rfl, by simp; omega⟩⟩
    · have hjl : j < len := by simpa using (List.getElem?_eq_some_iff.1 hj).1
      obtain ⟨_, cs, h1, h2, h3⟩ := hfn j hjl
      have : f j = p := by simpa [hjl] using hj
      subst this
      exact ⟨cs, h1, h2, h3⟩
    · intro p hp
      obtain ⟨j, hj, rfl⟩ := List.mem_map.1 hp
      exact (hfn j (by simpa using hj)).1
theorem slice_nil {t e : TypeId} (ht : P.underlying t = some (.slice e)) {len cap : Nat} {dd : DataW H} {ps : List MemPlace} (h : DataW.Trod enc P W 0 (fun _ => true) true t (.slice none len cap) dd ps) : cap = 0 := by
  obtain ⟨fuel, hf⟩ := h
  rcases open_slice ht hf with ⟨hcs, hx⟩ | ⟨a, l, c, m, n, D, Pl, hcs, _⟩
  · simp [Value.cells] at hcs
    exact hcs.2
  · simp [Value.cells] at hcs
end

def Wf62 (p : S62) : Prop := (Lit.int .i64 p.f0).wf = true ∧ (Lit.int .i64 p.f1).wf = true ∧ (Lit.int .i64 p.f2).wf = true ∧ (Lit.int .i64 p.f3).wf = true
theorem el62 {H : Type} {enc : TypeId × Value → H} {W : World} (n : Nat) (cs : List Value) (x : DataW H × List MemPlace) (hl : cs.length = 4) (h : DataW.trod enc Try.prog W 0 (fun _ => true) true n 62 cs = some x) :
    ∃ p : S62, k62.K W p cs ∧ Wf62 p := by
  match cs, hl with
  | [c0, c1, c2, c3], _ =>
    obtain ⟨y0, y1, y2, y3, m, _, _, h0, h1, h2, h3⟩ := Joins.trod_struct4 Try.underlying62 h
    have e3 : Try.prog.cellsOf 3 = 1 := by kernel_rfl
    simp only [e3, List.drop_zero, List.drop_succ_cons, List.take_succ_cons, List.take_zero] at h0 h1 h2 h3
    obtain ⟨a, q0, _, wa⟩ := DataW.trod_int Try.underlying3 h0
    obtain ⟨b, q1, _, wb⟩ := DataW.trod_int Try.underlying3 h1
    obtain ⟨c, q2, _, wc⟩ := DataW.trod_int Try.underlying3 h2
    obtain ⟨d, q3, _, wd⟩ := DataW.trod_int Try.underlying3 h3
    simp at q0 q1 q2 q3
    subst q0 q1 q2 q3
    exact ⟨⟨a, b, c, d⟩, k62_mk W ⟨a, b, c, d⟩, wa, wb, wc, wd⟩
def Wf66 (p : S66) : Prop := (Lit.int .i64 p.f0).wf = true ∧ (Lit.int .i64 p.f1).wf = true
theorem el66 {H : Type} {enc : TypeId × Value → H} {W : World} (n : Nat) (cs : List Value) (x : DataW H × List MemPlace) (hl : cs.length = 3) (h : DataW.trod enc Try.prog W 0 (fun _ => true) true n 66 cs = some x) :
    ∃ p : S66, k66.K W p cs ∧ Wf66 p := by
  match cs, hl with
  | [c0, c1, c2], _ =>
    obtain ⟨y0, y1, y2, m, _, _, h0, h1, h2⟩ := trod_struct3 Try.underlying66 h
    have e3 : Try.prog.cellsOf 3 = 1 := by kernel_rfl
    have e4 : Try.prog.cellsOf 4 = 1 := by kernel_rfl
    simp only [e3, e4, List.drop_zero, List.drop_succ_cons, List.take_succ_cons, List.take_zero] at h0 h1 h2
    obtain ⟨a, q0, _, wa⟩ := DataW.trod_int Try.underlying3 h0
    obtain ⟨b, q1, _, wb⟩ := DataW.trod_int Try.underlying3 h1
    obtain ⟨c, q2, _⟩ := DataW.trod_bool Try.underlying4 h2
    simp at q0 q1 q2
    subst q0 q1 q2
    exact ⟨⟨a, b, c⟩, k66_mk W ⟨a, b, c⟩, wa, wb⟩
def kI : Kd Int := Kd.int .i64
def WfI (p : Int) : Prop := (Lit.int .i64 p).wf = true
theorem elI {H : Type} {enc : TypeId × Value → H} {W : World} (n : Nat) (cs : List Value) (x : DataW H × List MemPlace) (hl : cs.length = 1) (h : DataW.trod enc Try.prog W 0 (fun _ => true) true n 3 cs = some x) :
    ∃ p : Int, kI.K W p cs ∧ WfI p := by
  match cs, hl with
  | [c0], _ =>
    obtain ⟨a, q0, _, wa⟩ := DataW.trod_int Try.underlying3 h
    simp at q0
    subst q0
    exact ⟨a, rfl, wa⟩
end Go.Proofs.Ytobnehbcnlhchaa.Opn
