/- How lists that are handed in read: any slice; bytes. Conditions: none. -/
import Derived.Test.YtobnehbcnlhchaaMem
import Derived.ProofKit
import Derived.OpenShut
import Derived.Deep.Slices
import Derived.Deep.Strs
import Derived.SizedLaws
namespace Go.Proofs.Ytobnehbcnlhchaa.Opn
open Go.ChangeShapes Go.WideShapes Go.ChangeAt Go.RowKit Go.Deep Go.Proofs.Ytobnehbcnlhchaa.Mem
set_option linter.unusedVariables false

/-- what is read is no heavier than the form's reach -/
def Sz {H : Type} (P : Program) (t : TypeId) (d : DataW H) : Prop := ∀ n ∈ d.weights P t, n ≤ reachBytes
section
variable {H : Type} {enc : TypeId × Value → H} {P : Program} {W : World}
theorem sz_of {ts : List TypeId} {ds : List (DataW H)} (h : (DataW.weightsEach P ts ds).all (· ≤ reachBytes) = true) {j : Nat} {t : TypeId} {d : DataW H} (ht : ts[j]? = some t) (hd : ds[j]? = some d) : Sz P t d := fun n hn => by
  have := List.all_eq_true.1 h _ (DataW.weights_mem_each ht hd n hn)
  simpa using this
theorem sz_all {e : TypeId} : ∀ {l : List (DataW H)}, (∀ n ∈ DataW.weightsAll P e l, n ≤ reachBytes) → ∀ d ∈ l, Sz P e d
  | [], _, d, hd => by cases hd
  | x :: r, h, d, hd => by
    simp only [DataW.weightsAll, List.mem_append] at h
    rcases List.mem_cons.1 hd with rfl | hd
    · exact fun n hn => h n (.inl hn)
    · exact sz_all (fun n hn => h n (.inr hn)) d hd
theorem sz_slice {t e : TypeId} (ht : P.underlying t = some (.slice e)) {el sp : List (DataW H)} (h : Sz P t (.slice el sp)) : (el.length + sp.length) * P.bytesOf e ≤ reachBytes ∧ (∀ d ∈ el, Sz P e d) ∧ ∀ d ∈ sp, Sz P e d := by
  unfold Sz at h
  simp only [DataW.weights, ht, List.mem_cons, List.mem_append] at h
  exact ⟨h _ (.inl rfl), sz_all (fun n hn => h n (.inr (.inl hn))), sz_all (fun n hn => h n (.inr (.inr hn)))⟩
theorem sz_each : ∀ {ts : List TypeId} {l : List (DataW H)}, (∀ n ∈ DataW.weightsEach P ts l, n ≤ reachBytes) → ∀ (j : Nat) (t : TypeId) (d : DataW H), ts[j]? = some t → l[j]? = some d → Sz P t d := by
  intro ts l h j t d ht hd n hn
  exact h n (DataW.weights_mem_each ht hd n hn)
theorem sz_agg {t : TypeId} {fs : Array Field} (ht : P.underlying t = some (.struct fs)) {l : List (DataW H)} (h : Sz P t (.agg l)) (j : Nat) (f : Field) (d : DataW H) (hf : fs[j]? = some f) (hd : l[j]? = some d) : Sz P f.type d := by
  unfold Sz at h
  simp only [DataW.weights, ht] at h
  exact sz_each h j _ _ (by simp [hf]) hd
theorem sz_str {t : TypeId} {b : List UInt8} (h : Sz P t (.lit (.string b) : DataW H)) : b.length ≤ reachBytes := h _ (by simp [DataW.weights])
/-- a slice that came in, element by element -/
theorem slice_gen {α : Type} (sz : Nat) (R : α → List Value → Prop) {t e : TypeId} (z : α) (ht : P.underlying t = some (.slice e)) (hc : P.cellsOf e = sz)
    (hel : ∀ n cs x, cs.length = sz → Sz P e x.1 → DataW.trod enc P W 0 (fun _ => true) true n e cs = some x → ∃ p, R p cs)
    {A : Option Addr} {len cap : Nat} {dd : DataW H} {ps : List MemPlace} (hS : Sz P t dd) (h : DataW.Trod enc P W 0 (fun _ => true) true t (.slice A len cap) dd ps) :
    ∃ xs : List α, xs.length = len ∧ (∀ j p, xs[j]? = some p → ∃ a cs, A = some a ∧ cs.length = sz ∧ R p cs ∧ ∀ i u, cs[i]? = some u → W.cell? (a.add (j * sz + i)) = some u) ∧ len ≤ cap ∧ cap * P.bytesOf e ≤ reachBytes ∧ (A = none → cap = 0) := by
  obtain ⟨fuel, hf⟩ := h
  rcases open_slice ht hf with ⟨hcs, hx⟩ | ⟨a, l, c, m, n, D, Pl, hcs, _, hl, hm, hmm, hx, hi⟩
  · simp [Value.cells] at hcs
    obtain ⟨rfl, rfl, rfl⟩ := hcs
    obtain ⟨rfl, rfl⟩ := Prod.mk.inj hx
    exact ⟨[], rfl, fun j p h => by simp at h, Nat.le_refl _, by simp, fun _ => rfl⟩
  · simp [Value.cells] at hcs
    obtain ⟨rfl, rfl, rfl⟩ := hcs
    obtain ⟨rfl, rfl⟩ := Prod.mk.inj hx
    simp only [if_true] at hmm
    subst hmm
    haveI : Inhabited α := ⟨z⟩
    obtain ⟨hb, hse, hss⟩ := sz_slice ht hS
    have hcl : ((List.range len).map D).length + ((List.range (m - len)).map fun j => D (len + j)).length = m := by simp; omega
    rw [hcl] at hb
    obtain ⟨f, hfn⟩ := choose_lt (α := α) (n := len) (p := fun i p => ∃ cs, cs.length = sz ∧ R p cs ∧ ∀ j u, cs[j]? = some u → W.cell? (a.add (i * sz + j)) = some u) (fun i hi' => by
      have hsd : Sz P e (D i) := hse _ (List.mem_map.2 ⟨i, by simpa using hi', rfl⟩)
      obtain ⟨cs', h1, h2⟩ := hi i (by omega)
      obtain ⟨_, hlen, hcell⟩ := World.cells?_some h1
      rw [hc] at hlen hcell
      obtain ⟨p, hk⟩ := hel n cs' (D i, Pl i) hlen hsd h2
      refine ⟨p, cs', hlen, hk, fun j u hj => ?_⟩
      have hjl : j < sz := by rw [← hlen]; exact (List.getElem?_eq_some_iff.1 hj).1
      rw [← Deep.add_add, hcell j hjl, hj])
    refine ⟨(List.range len).map f, by simp, fun j p hj => ?_, hl, hb, fun h => by cases h⟩
    have hjl : j < len := by simpa using (List.getElem?_eq_some_iff.1 hj).1
    obtain ⟨cs, h1, h2, h3⟩ := hfn j hjl
    have : f j = p := by simpa [hjl] using hj
    subst this
    exact ⟨a, cs, rfl, h1, h2, h3⟩
/-- bytes -/
theorem bytes_gen {t e : TypeId} (ht : P.underlying t = some (.slice e)) (hu : P.underlying e = some (.int .u8)) (hc : P.cellsOf e = 1)
    {A : Option Addr} {len cap : Nat} {dd : DataW H} {ps : List MemPlace} (hS : Sz P t dd) (h : DataW.Trod enc P W 0 (fun _ => true) true t (.slice A len cap) dd ps) :
    ∃ xs : List UInt8, xs.length = len ∧ BR Any W A xs ∧ len ≤ cap ∧ cap * P.bytesOf e ≤ reachBytes ∧ (A = none → cap = 0) := by
  obtain ⟨xs, h1, h2, h3⟩ := slice_gen 1 (fun (b : UInt8) cs => cs = [Value.int .u8 (b.toNat : Int)]) 0 ht hc (fun n cs x hl _ hx => by
    match cs, hl with
    | [c0], _ =>
      obtain ⟨a, q0, _, wa⟩ := DataW.trod_int hu hx
      simp at q0
      subst q0
      have hw : 0 ≤ a ∧ a ≤ 255 := by simpa [Lit.wf, IntKind.min, IntKind.max, IntKind.signed, IntKind.bits] using wa
      refine ⟨UInt8.ofNat a.toNat, ?_⟩
      rw [UInt8.toNat_ofNat', show (a.toNat % 2 ^ 8 : Nat) = a.toNat by omega, Int.toNat_of_nonneg hw.1]) hS h
  refine ⟨xs, h1, fun j u hj => ?_, h3⟩
  obtain ⟨a, cs, hA, _, rfl, hcell⟩ := h2 j u hj
  exact ⟨a, hA, trivial, by have := hcell 0 _ rfl; rwa [Nat.mul_one, Nat.add_zero] at this⟩
/-- whole numbers -/
theorem ints_gen {t e : TypeId} (ht : P.underlying t = some (.slice e)) (hu : P.underlying e = some (.int .i64)) (hc : P.cellsOf e = 1)
    {A : Option Addr} {len cap : Nat} {dd : DataW H} {ps : List MemPlace} (hS : Sz P t dd) (h : DataW.Trod enc P W 0 (fun _ => true) true t (.slice A len cap) dd ps) :
    ∃ xs : List Int, xs.length = len ∧ (∀ (j : Nat) (x : Int), xs[j]? = some x → ∃ a, A = some a ∧ W.cell? (a.add j) = some (.int .i64 x) ∧ (Lit.int .i64 x).wf = true) ∧ len ≤ cap ∧ cap * P.bytesOf e ≤ reachBytes ∧ (A = none → cap = 0) := by
  obtain ⟨xs, h1, h2, h3⟩ := slice_gen 1 (fun (x : Int) cs => cs = [Value.int .i64 x] ∧ (Lit.int .i64 x).wf = true) 0 ht hc (fun n cs x hl _ hx => by
    match cs, hl with
    | [c0], _ =>
      obtain ⟨a, q0, _, wa⟩ := DataW.trod_int hu hx
      simp at q0
      subst q0
      exact ⟨a, rfl, wa⟩) hS h
  refine ⟨xs, h1, fun j u hj => ?_, h3⟩
  obtain ⟨a, cs, hA, _, ⟨rfl, hw⟩, hcell⟩ := h2 j u hj
  exact ⟨a, hA, by have := hcell 0 _ rfl; rwa [Nat.mul_one, Nat.add_zero] at this, hw⟩
end
theorem bytes {H : Type} {enc : TypeId × Value → H} {W : World} {A : Option Addr} {len cap : Nat} {dd : DataW H} {ps : List MemPlace} (hS : Sz Try.prog 123 dd) (h : DataW.Trod enc Try.prog W 0 (fun _ => true) true 123 (.slice A len cap) dd ps) :
    ∃ xs : List UInt8, xs.length = len ∧ BR Any W A xs ∧ len ≤ cap ∧ cap ≤ 140737488351232 := by
  obtain ⟨xs, h1, h2, h3, h4, _⟩ := bytes_gen Try.underlying123 Try.underlying5 (by kernel_rfl) hS h
  rw [show Try.prog.bytesOf 5 = 1 by kernel_rfl, Nat.mul_one] at h4
  exact ⟨xs, h1, h2, h3, h4⟩
end Go.Proofs.Ytobnehbcnlhchaa.Opn
