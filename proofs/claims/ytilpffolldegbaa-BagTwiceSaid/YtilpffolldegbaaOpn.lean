/- How lists that are handed in read: any slice; bytes. Conditions: none. -/
import Derived.Test.YtilpffolldegbaaMem
import Derived.ProofKit
import Derived.OpenShut
import Derived.Deep.Slices
import Derived.Deep.Strs
import Derived.SizedLaws
namespace Go.Proofs.Ytilpffolldegbaa.Opn
open Go.ChangeShapes Go.WideShapes Go.ChangeAt Go.RowKit Go.Deep Go.Proofs.Ytilpffolldegbaa.Mem
set_option linter.unusedVariables false

section
variable {H : Type} {enc : TypeId × Value → H} {P : Program} {W : World}
/-- a slice that came in, element by element -/
theorem slice_gen {α : Type} (sz : Nat) (R : α → List Value → Prop) {t e : TypeId} (z : α) (ht : P.underlying t = some (.slice e)) (hc : P.cellsOf e = sz)
    (hel : ∀ n cs x, cs.length = sz → DataW.trod enc P W 0 (fun _ => true) true n e cs = some x → ∃ p, R p cs)
    {A : Option Addr} {len cap : Nat} {dd : DataW H} {ps : List MemPlace} (h : DataW.Trod enc P W 0 (fun _ => true) true t (.slice A len cap) dd ps) :
    ∃ xs : List α, xs.length = len ∧ (∀ j p, xs[j]? = some p → ∃ a cs, A = some a ∧ cs.length = sz ∧ R p cs ∧ ∀ i u, cs[i]? = some u → W.cell? (a.add (j * sz + i)) = some u) ∧ len ≤ cap ∧ (dd = .nil ∧ cap = 0 ∧ A = none ∨ ∃ el sp, dd = .slice el sp ∧ el.length + sp.length = cap) := by
  obtain ⟨fuel, hf⟩ := h
  rcases open_slice ht hf with ⟨hcs, hx⟩ | ⟨a, l, c, m, n, D, Pl, hcs, _, hl, hm, hmm, hx, hi⟩
  · simp [Value.cells] at hcs
    obtain ⟨rfl, rfl, rfl⟩ := hcs
    obtain ⟨rfl, rfl⟩ := Prod.mk.inj hx
    exact ⟨[], rfl, fun j p h => by simp at h, Nat.le_refl _, .inl ⟨rfl, rfl, rfl⟩⟩
  · simp [Value.cells] at hcs
    obtain ⟨rfl, rfl, rfl⟩ := hcs
    obtain ⟨rfl, rfl⟩ := Prod.mk.inj hx
    simp only [if_true] at hmm
    subst hmm
    haveI : Inhabited α := ⟨z⟩
    obtain ⟨f, hfn⟩ := choose_lt (α := α) (n := len) (p := fun i p => ∃ cs, cs.length = sz ∧ R p cs ∧ ∀ j u, cs[j]? = some u → W.cell? (a.add (i * sz + j)) = some u) (fun i hi' => by
      obtain ⟨cs', h1, h2⟩ := hi i (by omega)
      obtain ⟨_, hlen, hcell⟩ := World.cells?_some h1
      rw [hc] at hlen hcell
      obtain ⟨p, hk⟩ := hel n cs' _ hlen h2
      refine ⟨p, cs', hlen, hk, fun j u hj => ?_⟩
      have hjl : j < sz := by rw [← hlen]; exact (List.getElem?_eq_some_iff.1 hj).1
      rw [← Deep.add_add, hcell j hjl, hj])
    refine ⟨(List.range len).map f, by simp, fun j p hj => ?_, hl, .inr ⟨_, _, rfl, by simp; omega⟩⟩
    have hjl : j < len := by simpa using (List.getElem?_eq_some_iff.1 hj).1
    obtain ⟨cs, h1, h2, h3⟩ := hfn j hjl
    have : f j = p := by simpa [hjl] using hj
    subst this
    exact ⟨a, cs, rfl, h1, h2, h3⟩
/-- bytes -/
theorem bytes_gen {t e : TypeId} (ht : P.underlying t = some (.slice e)) (hu : P.underlying e = some (.int .u8)) (hc : P.cellsOf e = 1)
    {A : Option Addr} {len cap : Nat} {dd : DataW H} {ps : List MemPlace} (h : DataW.Trod enc P W 0 (fun _ => true) true t (.slice A len cap) dd ps) :
    ∃ xs : List UInt8, xs.length = len ∧ BR Any W A xs ∧ len ≤ cap ∧ (dd = .nil ∧ cap = 0 ∧ A = none ∨ ∃ el sp, dd = .slice el sp ∧ el.length + sp.length = cap) := by
  obtain ⟨xs, h1, h2, h3⟩ := slice_gen 1 (fun (b : UInt8) cs => cs = [Value.int .u8 (b.toNat : Int)]) 0 ht hc (fun n cs x hl hx => by
    match cs, hl with
    | [c0], _ =>
      obtain ⟨a, q0, _, wa⟩ := DataW.trod_int hu hx
      simp at q0
      subst q0
      have hw : 0 ≤ a ∧ a ≤ 255 := by simpa [Lit.wf, IntKind.min, IntKind.max, IntKind.signed, IntKind.bits] using wa
      refine ⟨UInt8.ofNat a.toNat, ?_⟩
      rw [UInt8.toNat_ofNat', show (a.toNat % 2 ^ 8 : Nat) = a.toNat by omega, Int.toNat_of_nonneg hw.1]) h
  refine ⟨xs, h1, fun j u hj => ?_, h3⟩
  obtain ⟨a, cs, hA, _, rfl, hcell⟩ := h2 j u hj
  exact ⟨a, hA, trivial, by have := hcell 0 _ rfl; rwa [Nat.mul_one, Nat.add_zero] at this⟩
end
theorem bytes {H : Type} {enc : TypeId × Value → H} {W : World} {A : Option Addr} {len cap : Nat} {dd : DataW H} {ps : List MemPlace} (h : DataW.Trod enc Try.prog W 0 (fun _ => true) true 22 (.slice A len cap) dd ps) :
    ∃ xs : List UInt8, xs.length = len ∧ BR Any W A xs ∧ len ≤ cap ∧ (dd = .nil ∧ cap = 0 ∧ A = none ∨ ∃ el sp, dd = .slice el sp ∧ el.length + sp.length = cap) :=
  bytes_gen Try.underlying22 Try.underlying5 (by kernel_rfl) h
end Go.Proofs.Ytilpffolldegbaa.Opn
