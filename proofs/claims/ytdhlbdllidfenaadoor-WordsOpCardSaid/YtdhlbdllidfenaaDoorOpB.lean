/- Words: is an op one that may be: the program's Check, walked. Conditions: none. -/
import Derived.Test.YtdhlbdllidfenaaDoorOpA
import Derived.Test.YtdhlbdllidfenaaDoorReB
namespace Go.Proofs.YtdhlbdllidfenaaDoor.Wd
open Go.RowKit Go.Proofs.YtdhlbdllidfenaaDoor.Mem
set_option linter.unusedVariables false
set_option linter.unusedSimpArgs false
def OV.v (o : OV) : Value := .agg #[.int .i64 o.kind, sv o.name, sv o.text, .int .i64 o.num, .int .i64 o.most]
theorem Bk.five {w : World} {b t : Nat} {x0 x1 x2 x3 x4 : Value} (h : Bk w b t [x0, x1, x2, x3, x4]) : w.cell? ⟨b, 0, none⟩ = some x0 ∧ w.cell? ⟨b, 1, none⟩ = some x1 ∧ w.cell? ⟨b, 2, none⟩ = some x2 ∧ w.cell? ⟨b, 3, none⟩ = some x3 ∧ w.cell? ⟨b, 4, none⟩ = some x4 ∧ ∀ j, w.frozen? ⟨b, j, none⟩ = false := ⟨h.cell 0, h.cell 1, h.cell 2, h.cell 3, h.cell 4, h.free⟩
theorem wIsName (s : ByteArray) (w : World) : Calls Tryd.prog 51 #[.string s] w fun e w' => e = .returned (.bool (decide (1 ≤ s.size) && decide (s.size ≤ 16))) ∧ w' = w := by
  by_cases h : 1 ≤ s.size
  · have d1 : decide ((1 : Int) ≤ (s.size : Int)) = true := decide_eq_true (by omega)
    have d1' : decide (1 ≤ s.size) = true := decide_eq_true h
    have d2 : decide ((s.size : Int) ≤ 16) = decide (s.size ≤ 16) := by rw [decide_eq_decide]; omega
    go_enter Tryd.func51, Tryd.ntmps51
    go_wp2
    go_ret
    simp_all
  · have d1 : decide ((1 : Int) ≤ (s.size : Int)) = false := decide_eq_false (by omega)
    have d1' : decide (1 ≤ s.size) = false := decide_eq_false h
    go_enter Tryd.func51, Tryd.ntmps51
    go_wp2
    go_ret
    simp_all

theorem wShape1 (w : World) : Calls Tryd.prog 50 #[.int .i64 1] w fun e w' => e = .returned (.tuple #[.agg #[.bool true, .bool false, .bool false, .bool false, .bool false], .bool true]) ∧ Fr No w w' := by
  go_enter Tryd.func50, Tryd.ntmps50
  go_wp2
  refine bodyPost_ret (v := .tuple #[.agg #[.bool true, .bool false, .bool false, .bool false, .bool false], .bool true]) (by simp [results, Tryd.results50, go_sem]) rfl ⟨rfl, ?_⟩
  repeat (refine Fr.set ?_ (.inr (by simp)) _)
  exact (Fr.refl _ _).alloc _
theorem wShape2 (w : World) : Calls Tryd.prog 50 #[.int .i64 2] w fun e w' => e = .returned (.tuple #[.agg #[.bool true, .bool false, .bool false, .bool false, .bool false], .bool true]) ∧ Fr No w w' := by
  go_enter Tryd.func50, Tryd.ntmps50
  go_wp2
  refine bodyPost_ret (v := .tuple #[.agg #[.bool true, .bool false, .bool false, .bool false, .bool false], .bool true]) (by simp [results, Tryd.results50, go_sem]) rfl ⟨rfl, ?_⟩
  repeat (refine Fr.set ?_ (.inr (by simp)) _)
  exact (Fr.refl _ _).alloc _
theorem wShape3 (w : World) : Calls Tryd.prog 50 #[.int .i64 3] w fun e w' => e = .returned (.tuple #[.agg #[.bool true, .bool true, .bool false, .bool false, .bool false], .bool true]) ∧ Fr No w w' := by
  go_enter Tryd.func50, Tryd.ntmps50
  go_wp2
  refine bodyPost_ret (v := .tuple #[.agg #[.bool true, .bool true, .bool false, .bool false, .bool false], .bool true]) (by simp [results, Tryd.results50, go_sem]) rfl ⟨rfl, ?_⟩
  repeat (refine Fr.set ?_ (.inr (by simp)) _)
  exact (Fr.refl _ _).alloc _
theorem wShape4 (w : World) : Calls Tryd.prog 50 #[.int .i64 4] w fun e w' => e = .returned (.tuple #[.agg #[.bool true, .bool false, .bool false, .bool true, .bool false], .bool true]) ∧ Fr No w w' := by
  go_enter Tryd.func50, Tryd.ntmps50
  go_wp2
  refine bodyPost_ret (v := .tuple #[.agg #[.bool true, .bool false, .bool false, .bool true, .bool false], .bool true]) (by simp [results, Tryd.results50, go_sem]) rfl ⟨rfl, ?_⟩
  repeat (refine Fr.set ?_ (.inr (by simp)) _)
  exact (Fr.refl _ _).alloc _
theorem wShape5 (w : World) : Calls Tryd.prog 50 #[.int .i64 5] w fun e w' => e = .returned (.tuple #[.agg #[.bool true, .bool true, .bool true, .bool false, .bool false], .bool true]) ∧ Fr No w w' := by
  go_enter Tryd.func50, Tryd.ntmps50
  go_wp2
  refine bodyPost_ret (v := .tuple #[.agg #[.bool true, .bool true, .bool true, .bool false, .bool false], .bool true]) (by simp [results, Tryd.results50, go_sem]) rfl ⟨rfl, ?_⟩
  repeat (refine Fr.set ?_ (.inr (by simp)) _)
  exact (Fr.refl _ _).alloc _
theorem wShape6 (w : World) : Calls Tryd.prog 50 #[.int .i64 6] w fun e w' => e = .returned (.tuple #[.agg #[.bool true, .bool false, .bool false, .bool true, .bool true], .bool true]) ∧ Fr No w w' := by
  go_enter Tryd.func50, Tryd.ntmps50
  go_wp2
  refine bodyPost_ret (v := .tuple #[.agg #[.bool true, .bool false, .bool false, .bool true, .bool true], .bool true]) (by simp [results, Tryd.results50, go_sem]) rfl ⟨rfl, ?_⟩
  repeat (refine Fr.set ?_ (.inr (by simp)) _)
  exact (Fr.refl _ _).alloc _
theorem wShape7 (w : World) : Calls Tryd.prog 50 #[.int .i64 7] w fun e w' => e = .returned (.tuple #[.agg #[.bool true, .bool false, .bool false, .bool false, .bool false], .bool true]) ∧ Fr No w w' := by
  go_enter Tryd.func50, Tryd.ntmps50
  go_wp2
  refine bodyPost_ret (v := .tuple #[.agg #[.bool true, .bool false, .bool false, .bool false, .bool false], .bool true]) (by simp [results, Tryd.results50, go_sem]) rfl ⟨rfl, ?_⟩
  repeat (refine Fr.set ?_ (.inr (by simp)) _)
  exact (Fr.refl _ _).alloc _
theorem wShape8 (w : World) : Calls Tryd.prog 50 #[.int .i64 8] w fun e w' => e = .returned (.tuple #[.agg #[.bool false, .bool false, .bool false, .bool false, .bool false], .bool true]) ∧ Fr No w w' := by
  go_enter Tryd.func50, Tryd.ntmps50
  go_wp2
  refine bodyPost_ret (v := .tuple #[.agg #[.bool false, .bool false, .bool false, .bool false, .bool false], .bool true]) (by simp [results, Tryd.results50, go_sem]) rfl ⟨rfl, ?_⟩
  repeat (refine Fr.set ?_ (.inr (by simp)) _)
  exact (Fr.refl _ _).alloc _
theorem wShape0 (k : Int) (hk : k < 1 ∨ 8 < k) (w : World) : Calls Tryd.prog 50 #[.int .i64 k] w fun e w' => e = .returned (.tuple #[.agg #[.bool false, .bool false, .bool false, .bool false, .bool false], .bool false]) ∧ Fr No w w' := by
  have e1 : (k == 1) = false := beq_eq_false_iff_ne.2 (by omega)
  have e2 : (k == 2) = false := beq_eq_false_iff_ne.2 (by omega)
  have e3 : (k == 3) = false := beq_eq_false_iff_ne.2 (by omega)
  have e4 : (k == 4) = false := beq_eq_false_iff_ne.2 (by omega)
  have e5 : (k == 5) = false := beq_eq_false_iff_ne.2 (by omega)
  have e6 : (k == 6) = false := beq_eq_false_iff_ne.2 (by omega)
  have e7 : (k == 7) = false := beq_eq_false_iff_ne.2 (by omega)
  have e8 : (k == 8) = false := beq_eq_false_iff_ne.2 (by omega)
  clear hk
  go_enter Tryd.func50, Tryd.ntmps50
  go_wp2
  refine bodyPost_ret (v := .tuple #[.agg #[.bool false, .bool false, .bool false, .bool false, .bool false], .bool false]) (by simp [results, Tryd.results50, go_sem]) rfl ⟨rfl, ?_⟩
  repeat (refine Fr.set ?_ (.inr (by simp)) _)
  exact (Fr.refl _ _).alloc _
end Go.Proofs.YtdhlbdllidfenaaDoor.Wd
