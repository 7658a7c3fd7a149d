/- A tally's Clear. Conditions: none. -/
import Derived.Test.YtobnehbcnlhchaaVtSB
namespace Go.Proofs.Ytobnehbcnlhchaa.VtS
open Go.RowKit Go.Proofs.Ytobnehbcnlhchaa.Mem Go.Proofs.Ytobnehbcnlhchaa.Vt
set_option linter.unusedVariables false
set_option linter.unusedSimpArgs false
set_option maxHeartbeats 1000000 in
theorem clear_ (g : Nat) (q : Int) (s : List (Bool × ByteArray)) (w : World) (hT : Tl w g q s) :
    Calls Try.prog 50 #[.pointer (some ⟨g, 0, none⟩)] w fun e w' => (∃ v, e = .returned v) ∧ Tl w' g q no7 ∧ Fr (fun j => j = g) w w' := by
  obtain ⟨p0, p1, p2, p3, p4, p5, p6, rfl⟩ := seven hT.2
  have hb := hT.bk
  have HB := Lib.hid hb
  have hf := hb.free
  have c0 := hb.cell 0
  have c1 := hb.cell 1
  have c2 := hb.cell 2
  have c3 := hb.cell 3
  have c4 := hb.cell 4
  have c5 := hb.cell 5
  have c6 := hb.cell 6
  have c7 := hb.cell 7
  have c8 := hb.cell 8
  have c9 := hb.cell 9
  have c10 := hb.cell 10
  have c11 := hb.cell 11
  have c12 := hb.cell 12
  have c13 := hb.cell 13
  have c14 := hb.cell 14
  simp [cellsT] at c0 c1 c2 c3 c4 c5 c6 c7 c8 c9 c10 c11 c12 c13 c14
  clear hb hT
  go_enter Try.func50, Try.ntmps50
  go_wp2
  go_end0
  refine ⟨⟨_, rfl⟩, ⟨?_, rfl⟩, ?_⟩
  · exact ((((((((((((((HB.out).set 1 (.bool false)).set 2 (.string ByteArray.empty)).set 3 (.bool false)).set 4 (.string ByteArray.empty)).set 5 (.bool false)).set 6 (.string ByteArray.empty)).set 7 (.bool false)).set 8 (.string ByteArray.empty)).set 9 (.bool false)).set 10 (.string ByteArray.empty)).set 11 (.bool false)).set 12 (.string ByteArray.empty)).set 13 (.bool false)).set 14 (.string ByteArray.empty)
  · exact (((((((((((((((Fr.refl (fun j => j = g) w)).set (p := ⟨g, 1, none⟩) (.inl rfl) _).set (p := ⟨g, 2, none⟩) (.inl rfl) _).set (p := ⟨g, 3, none⟩) (.inl rfl) _).set (p := ⟨g, 4, none⟩) (.inl rfl) _).set (p := ⟨g, 5, none⟩) (.inl rfl) _).set (p := ⟨g, 6, none⟩) (.inl rfl) _).set (p := ⟨g, 7, none⟩) (.inl rfl) _).set (p := ⟨g, 8, none⟩) (.inl rfl) _).set (p := ⟨g, 9, none⟩) (.inl rfl) _).set (p := ⟨g, 10, none⟩) (.inl rfl) _).set (p := ⟨g, 11, none⟩) (.inl rfl) _).set (p := ⟨g, 12, none⟩) (.inl rfl) _).set (p := ⟨g, 13, none⟩) (.inl rfl) _).set (p := ⟨g, 14, none⟩) (.inl rfl) _
theorem seq_some (f : Nat) (lb : Array Value) (W : World) : (binOp .eql 113 (.func (.func f) #[] lb) Value.nilFunc).run Try.prog W = .ok (.bool false) W := by
  have h : ∀ d : Nat, (Op.equalIn (d + 1) 113 (.func (.func f) #[] lb) Value.nilFunc).run Try.prog W = .ok false W := fun d => by
    simp [Op.equalIn, run_underlying Try.underlying113, go_sem]
  have h2 := h 9999
  rw [show (9999 + 1 : Nat) = Op.maxDepth from rfl] at h2
  simp [binOp, Op.equal, go_sem]
  rw [h2]
  rfl
end Go.Proofs.Ytobnehbcnlhchaa.VtS
