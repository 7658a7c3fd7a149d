/- How a script of steps reads that is handed in. Conditions: none. -/
import Derived.Test.YtilpffolldegbaaOpn
import Derived.Test.YtilpffolldegbaaBagK
namespace Go.Proofs.Ytilpffolldegbaa.Bg
open Go.RowKit Go.Proofs.Ytilpffolldegbaa.Mem
set_option linter.unusedVariables false
/-- a step -/
structure OpV where (second : Bool) (kind a b y : Int) (data : List UInt8)
def OpV.cells (o : OpV) (A : Option Addr) (c : Nat) : List Value := [.bool o.second, .int .i64 o.kind, .int .i64 o.a, .int .i64 o.b, .int .i64 o.y, .slice A o.data.length c]
/-- a slice at A reads as these steps -/
def OR (w : World) (A : Option Addr) (ops : List OpV) : Prop := ∀ (j : Nat) (o : OpV), ops[j]? = some o → ∃ ad Ad c, A = some ad ∧ o.data.length ≤ c ∧ BR Any w Ad o.data ∧
  w.cell? (ad.add (j * 6)) = some (.bool o.second) ∧ w.cell? ⟨(ad.add (j * 6)).block, (ad.add (j * 6)).off + 1, none⟩ = some (.int .i64 o.kind) ∧ w.cell? ⟨(ad.add (j * 6)).block, (ad.add (j * 6)).off + 2, none⟩ = some (.int .i64 o.a) ∧
  w.cell? ⟨(ad.add (j * 6)).block, (ad.add (j * 6)).off + 3, none⟩ = some (.int .i64 o.b) ∧ w.cell? ⟨(ad.add (j * 6)).block, (ad.add (j * 6)).off + 4, none⟩ = some (.int .i64 o.y) ∧ w.cell? ⟨(ad.add (j * 6)).block, (ad.add (j * 6)).off + 5, none⟩ = some (.slice Ad o.data.length c)
theorem cell_fr {w w1 : World} (hf : Fr No w w1) {a : Addr} {v : Value} (h : w.cell? a = some v) : w1.cell? a = some v := (hf.to.cell (World.block_lt_of_cell? w a h)).trans h
theorem OR.fr {w w1 : World} {A : Option Addr} {ops : List OpV} (h : OR w A ops) (hf : Fr No w w1) : OR w1 A ops := fun j o hj => by
  obtain ⟨ad, Ad, c, hA, hl, hb, h0, h1, h2, h3, h4, h5⟩ := h j o hj
  exact ⟨ad, Ad, c, hA, hl, hb.fr hf (fun _ _ _ q => q), cell_fr hf h0, cell_fr hf h1, cell_fr hf h2, cell_fr hf h3, cell_fr hf h4, cell_fr hf h5⟩
end Go.Proofs.Ytilpffolldegbaa.Bg
namespace Go.Proofs.Ytilpffolldegbaa.Opn
open Go.ChangeShapes Go.WideShapes Go.ChangeAt Go.RowKit Go.Deep Go.Proofs.Ytilpffolldegbaa.Mem Go.Proofs.Ytilpffolldegbaa.Bg
set_option linter.unusedVariables false
theorem add_field (ad : Addr) (m j : Nat) (hj : 0 < j) : ad.add (m + j) = ⟨(ad.add m).block, (ad.add m).off + j, none⟩ := by
  unfold Addr.add
  by_cases hm : m = 0
  · subst hm
    simp [Nat.ne_of_gt hj]
  · simp [hm, Nat.add_assoc]
set_option linter.constructorNameAsVariable false in
set_option maxRecDepth 100000 in
theorem elOp {H : Type} {enc : TypeId × Value → H} {W : World} (n : Nat) (cs : List Value) (x : DataW H × List MemPlace) (hl : cs.length = 6) (hS : Sz Try.prog 44 x.1) (h : DataW.trod enc Try.prog W 0 (fun _ => true) true n 44 cs = some x) :
    ∃ o : OpV, ∃ A c, cs = o.cells A c ∧ o.data.length ≤ c ∧ BR Any W A o.data ∧ o.data.length ≤ 140737488351232 := by
  match cs, hl with
  | [c0, c1, c2, c3, c4, c5], _ =>
    obtain ⟨xs, m, _, hx, _, hlen, hF⟩ := DataW.trod_struct Try.underlying44 h
    have e3 : Try.prog.cellsOf 3 = 1 := by kernel_rfl
    have e4 : Try.prog.cellsOf 4 = 1 := by kernel_rfl
    have e5 : Try.prog.cellsOf 22 = 1 := by kernel_rfl
    have h0 := hF 0 _ rfl
    have h1 := hF 1 _ rfl
    have h2 := hF 2 _ rfl
    have h3 := hF 3 _ rfl
    have h4 := hF 4 _ rfl
    have h5 := hF 5 _ rfl
    match xs, hlen with
    | [y0, y1, y2, y3, y4, y5], _ =>
      simp [e3, e4, e5] at h0 h1 h2 h3 h4 h5
      obtain ⟨a, q0, _⟩ := DataW.trod_bool Try.underlying4 h0
      obtain ⟨b, q1, _, _⟩ := DataW.trod_int Try.underlying3 h1
      obtain ⟨c, q2, _, _⟩ := DataW.trod_int Try.underlying3 h2
      obtain ⟨d, q3, _, _⟩ := DataW.trod_int Try.underlying3 h3
      obtain ⟨e, q4, _, _⟩ := DataW.trod_int Try.underlying3 h4
      simp at q0 q1 q2 q3 q4
      subst q0 q1 q2 q3 q4
      have hs : ∃ A l c, c5 = .slice A l c := by
        rcases open_slice Try.underlying22 h5 with ⟨hcs, _⟩ | ⟨a, l, c, m, n, D, Pl, hcs, _⟩
        · simp at hcs; exact ⟨_, _, _, hcs⟩
        · simp at hcs; exact ⟨_, _, _, hcs⟩
      obtain ⟨A, l, cp, rfl⟩ := hs
      rw [hx] at hS
      obtain ⟨l, rfl, hb, hc, hcp⟩ := bytes (enc := enc) (W := W) (dd := y5.1) (ps := y5.2) (sz_agg Try.underlying44 hS 5 _ _ rfl rfl) ⟨m, h5⟩
      exact ⟨⟨a, b, c, d, e, l⟩, A, cp, rfl, hc, hb, Nat.le_trans hc hcp⟩
theorem ops {H : Type} {enc : TypeId × Value → H} {W : World} {A : Option Addr} {len cap : Nat} {dd : DataW H} {ps : List MemPlace} (hS : Sz Try.prog 40 dd) (h : DataW.Trod enc Try.prog W 0 (fun _ => true) true 40 (.slice A len cap) dd ps) :
    ∃ xs : List OpV, xs.length = len ∧ (OR W A xs ∧ ∀ o ∈ xs, o.data.length ≤ 140737488351232) ∧ len ≤ cap ∧ cap * 64 ≤ 140737488351232 := by
  obtain ⟨xs, h1, h2, h3, h4, _⟩ := slice_gen 6 (fun (o : OpV) cs => ∃ A c, cs = o.cells A c ∧ o.data.length ≤ c ∧ BR Any W A o.data ∧ o.data.length ≤ 140737488351232) ⟨false, 0, 0, 0, 0, []⟩ Try.underlying40 (by kernel_rfl) (fun n cs x hl hs hx => elOp n cs x hl hs hx) hS h
  rw [show Try.prog.bytesOf 44 = 64 by kernel_rfl] at h4
  refine ⟨xs, h1, ⟨fun j o hj => ?_, fun o ho => ?_⟩, h3, h4⟩
  rotate_left
  · obtain ⟨j, hj, rfl⟩ := List.mem_iff_getElem.1 ho
    obtain ⟨_, _, _, _, ⟨_, _, _, _, _, hb⟩, _⟩ := h2 j _ (List.getElem?_eq_getElem hj)
    exact hb
  obtain ⟨a, cs, hA, _, ⟨Ad, c, rfl, hl, hb, _⟩, hcell⟩ := h2 j o hj
  refine ⟨a, Ad, c, hA, hl, hb, ?_, ?_, ?_, ?_, ?_, ?_⟩
  · have := hcell 0 _ rfl; rwa [Nat.add_zero] at this
  · rw [← add_field _ _ 1 (by omega)]; exact hcell 1 _ rfl
  · rw [← add_field _ _ 2 (by omega)]; exact hcell 2 _ rfl
  · rw [← add_field _ _ 3 (by omega)]; exact hcell 3 _ rfl
  · rw [← add_field _ _ 4 (by omega)]; exact hcell 4 _ rfl
  · rw [← add_field _ _ 5 (by omega)]; exact hcell 5 _ rfl
end Go.Proofs.Ytilpffolldegbaa.Opn
