/- VotesTallies: how the sizes and the script that come in lie; the walk as the row asks it. Conditions: none. -/
import Derived.Test.YtobnehbcnlhchaaVtV
import Derived.Test.YtobnehbcnlhchaaOpn
namespace Go.Proofs.Ytobnehbcnlhchaa.Opn
open Go.ChangeShapes Go.WideShapes Go.ChangeAt Go.RowKit Go.Deep Go.Proofs.Ytobnehbcnlhchaa.Mem
set_option linter.unusedVariables false
theorem nums {H : Type} {enc : TypeId × Value → H} {W : World} {A : Option Addr} {len cap : Nat} {dd : DataW H} {ps : List MemPlace} (hS : Sz Try.prog 22 dd) (h : DataW.Trod enc Try.prog W 0 (fun _ => true) true 22 (.slice A len cap) dd ps) :
    ∃ xs : List Int, xs.length = len ∧ Vt.NR W A xs ∧ len ≤ cap ∧ cap * 8 ≤ 140737488351232 := by
  obtain ⟨xs, h1, h2, h3, h4, _⟩ := ints_gen Try.underlying22 Try.underlying3 (by kernel_rfl) hS h
  rw [show Try.prog.bytesOf 3 = 8 by kernel_rfl] at h4
  exact ⟨xs, h1, fun j x hj => by obtain ⟨a, hA, hc, _⟩ := h2 j x hj; exact ⟨a, hA, hc⟩, h3, h4⟩
theorem add_field (ad : Addr) (m j : Nat) (hj : 0 < j) : ad.add (m + j) = ⟨(ad.add m).block, (ad.add m).off + j, none⟩ := by
  unfold Addr.add
  by_cases hm : m = 0
  · subst hm
    simp [Nat.ne_of_gt hj]
  · simp [hm, Nat.add_assoc]
set_option linter.constructorNameAsVariable false in
set_option maxRecDepth 100000 in
theorem elStep {H : Type} {enc : TypeId × Value → H} {W : World} (n : Nat) (cs : List Value) (x : DataW H × List MemPlace) (hl : cs.length = 4) (h : DataW.trod enc Try.prog W 0 (fun _ => true) true n 49 cs = some x) :
    ∃ o : Vt.StepW, cs = [.int .i64 o.kind, .int .i64 o.on, .int .i64 o.who, .int .i64 o.v] ∧ o.wf := by
  match cs, hl with
  | [c0, c1, c2, c3], _ =>
    obtain ⟨xs, m, _, hx, _, hlen, hF⟩ := DataW.trod_struct Try.underlying49 h
    have e3 : Try.prog.cellsOf 3 = 1 := by kernel_rfl
    have h0 := hF 0 _ rfl
    have h1 := hF 1 _ rfl
    have h2 := hF 2 _ rfl
    have h3 := hF 3 _ rfl
    match xs, hlen with
    | [y0, y1, y2, y3], _ =>
      simp [e3] at h0 h1 h2 h3
      obtain ⟨a, q0, _, wa⟩ := DataW.trod_int Try.underlying3 h0
      obtain ⟨b, q1, _, wb⟩ := DataW.trod_int Try.underlying3 h1
      obtain ⟨c, q2, _, wc⟩ := DataW.trod_int Try.underlying3 h2
      obtain ⟨d, q3, _, wd⟩ := DataW.trod_int Try.underlying3 h3
      simp at q0 q1 q2 q3
      subst q0 q1 q2 q3
      exact ⟨⟨a, b, c, d⟩, rfl, wb, wc, wd⟩
theorem steps {H : Type} {enc : TypeId × Value → H} {W : World} {A : Option Addr} {len cap : Nat} {dd : DataW H} {ps : List MemPlace} (hS : Sz Try.prog 39 dd) (h : DataW.Trod enc Try.prog W 0 (fun _ => true) true 39 (.slice A len cap) dd ps) :
    ∃ xs : List Vt.StepW, xs.length = len ∧ (Vt.SR W A xs ∧ ∀ o ∈ xs, o.wf) ∧ len ≤ cap ∧ cap * 32 ≤ 140737488351232 := by
  obtain ⟨xs, h1, h2, h3, h4, _⟩ := slice_gen 4 (fun (o : Vt.StepW) cs => cs = [.int .i64 o.kind, .int .i64 o.on, .int .i64 o.who, .int .i64 o.v] ∧ o.wf) ⟨0, 0, 0, 0⟩ Try.underlying39 (by kernel_rfl) (fun n cs x hl hs hx => elStep n cs x hl hx) hS h
  rw [show Try.prog.bytesOf 49 = 32 by kernel_rfl] at h4
  refine ⟨xs, h1, ⟨fun j o hj => ?_, fun o ho => ?_⟩, h3, h4⟩
  · obtain ⟨a, cs, hA, _, ⟨rfl, _⟩, hcell⟩ := h2 j o hj
    refine ⟨a, hA, ?_, ?_, ?_, ?_⟩
    · have := hcell 0 _ rfl; rwa [Nat.add_zero] at this
    · rw [← add_field _ _ 1 (by omega)]; exact hcell 1 _ rfl
    · rw [← add_field _ _ 2 (by omega)]; exact hcell 2 _ rfl
    · rw [← add_field _ _ 3 (by omega)]; exact hcell 3 _ rfl
  · obtain ⟨j, hj, rfl⟩ := List.mem_iff_getElem.1 ho
    obtain ⟨_, _, _, _, ⟨_, hw⟩, _⟩ := h2 j _ (List.getElem?_eq_getElem hj)
    exact hw
end Go.Proofs.Ytobnehbcnlhchaa.Opn
namespace Go.Proofs.Ytobnehbcnlhchaa.Vt
open Go.RowKit Go.Proofs.Ytobnehbcnlhchaa.Mem
set_option linter.unusedVariables false in
theorem tallies_row (w : World) (A : Option Addr) (c : Nat) (l : List Int) (hA : NR w A l) (hl : l.length ≤ c) (hc : c * 8 ≤ 140737488351232) (A' : Option Addr) (c' : Nat) (xs : List StepW) (hX : SR w A' xs ∧ ∀ o ∈ xs, o.wf) (hx : xs.length ≤ c') (hc' : c' * 32 ≤ 140737488351232) :
    Calls Try.prog 4 #[.slice A l.length c, .slice A' xs.length c'] w fun e w' => e = .returned (.bool true) ∧ Below w.heap.size w w' :=
  (tallies_walk w A A' c c' l xs hA (by omega) hX.1 (by omega) hX.2).mono fun e w' h => ⟨h.1, h.2.to⟩
end Go.Proofs.Ytobnehbcnlhchaa.Vt
