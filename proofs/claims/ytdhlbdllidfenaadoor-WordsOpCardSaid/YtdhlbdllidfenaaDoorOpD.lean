/- Words: is an op one that may be: the document's Check, walked (printed by a program of ours). Conditions: none. -/
import Derived.Test.YtdhlbdllidfenaaDoorOpC
import Derived.BigQuiet
import Derived.Deep.QuietTactic
namespace Go.Proofs.YtdhlbdllidfenaaDoor.Wd
open Go.RowKit Go.Proofs.YtdhlbdllidfenaaDoor.Mem
set_option linter.unusedVariables false
set_option linter.unusedSimpArgs false
theorem r05hasName1 (w : World) : Calls Tryd.prog 46 #[.int .i64 1] w fun e w' => e = .returned (.bool true) ∧ w' = w := by
  go_enter Tryd.func46, Tryd.ntmps46
  go_wp2
  go_ret
  simp
theorem r05hasNum1 (w : World) : Calls Tryd.prog 49 #[.int .i64 1] w fun e w' => e = .returned (.bool false) ∧ w' = w := by
  go_enter Tryd.func49, Tryd.ntmps49
  go_wp2
  go_ret
  simp
theorem r05textMost1 (w : World) : Calls Tryd.prog 47 #[.int .i64 1] w fun e w' => e = .returned (.int .i64 (-1)) ∧ w' = w := by
  go_enter Tryd.func47, Tryd.ntmps47
  go_wp2
  go_ret
  simp
theorem r05textLeast1 (w : World) : Calls Tryd.prog 48 #[.int .i64 1] w fun e w' => e = .returned (.int .i64 0) ∧ w' = w := by
  go_enter Tryd.func48, Tryd.ntmps48
  go_wp2
  go_ret
  simp
theorem r05hasName2 (w : World) : Calls Tryd.prog 46 #[.int .i64 2] w fun e w' => e = .returned (.bool true) ∧ w' = w := by
  go_enter Tryd.func46, Tryd.ntmps46
  go_wp2
  go_ret
  simp
theorem r05hasNum2 (w : World) : Calls Tryd.prog 49 #[.int .i64 2] w fun e w' => e = .returned (.bool false) ∧ w' = w := by
  go_enter Tryd.func49, Tryd.ntmps49
  go_wp2
  go_ret
  simp
theorem r05textMost2 (w : World) : Calls Tryd.prog 47 #[.int .i64 2] w fun e w' => e = .returned (.int .i64 (-1)) ∧ w' = w := by
  go_enter Tryd.func47, Tryd.ntmps47
  go_wp2
  go_ret
  simp
theorem r05textLeast2 (w : World) : Calls Tryd.prog 48 #[.int .i64 2] w fun e w' => e = .returned (.int .i64 0) ∧ w' = w := by
  go_enter Tryd.func48, Tryd.ntmps48
  go_wp2
  go_ret
  simp
theorem r05hasName3 (w : World) : Calls Tryd.prog 46 #[.int .i64 3] w fun e w' => e = .returned (.bool true) ∧ w' = w := by
  go_enter Tryd.func46, Tryd.ntmps46
  go_wp2
  go_ret
  simp
theorem r05hasNum3 (w : World) : Calls Tryd.prog 49 #[.int .i64 3] w fun e w' => e = .returned (.bool false) ∧ w' = w := by
  go_enter Tryd.func49, Tryd.ntmps49
  go_wp2
  go_ret
  simp
theorem r05textMost3 (w : World) : Calls Tryd.prog 47 #[.int .i64 3] w fun e w' => e = .returned (.int .i64 64) ∧ w' = w := by
  go_enter Tryd.func47, Tryd.ntmps47
  go_wp2
  go_ret
  simp
theorem r05textLeast3 (w : World) : Calls Tryd.prog 48 #[.int .i64 3] w fun e w' => e = .returned (.int .i64 0) ∧ w' = w := by
  go_enter Tryd.func48, Tryd.ntmps48
  go_wp2
  go_ret
  simp
theorem r05hasName4 (w : World) : Calls Tryd.prog 46 #[.int .i64 4] w fun e w' => e = .returned (.bool true) ∧ w' = w := by
  go_enter Tryd.func46, Tryd.ntmps46
  go_wp2
  go_ret
  simp
theorem r05hasNum4 (w : World) : Calls Tryd.prog 49 #[.int .i64 4] w fun e w' => e = .returned (.bool true) ∧ w' = w := by
  go_enter Tryd.func49, Tryd.ntmps49
  go_wp2
  go_ret
  simp
theorem r05textMost4 (w : World) : Calls Tryd.prog 47 #[.int .i64 4] w fun e w' => e = .returned (.int .i64 (-1)) ∧ w' = w := by
  go_enter Tryd.func47, Tryd.ntmps47
  go_wp2
  go_ret
  simp
theorem r05textLeast4 (w : World) : Calls Tryd.prog 48 #[.int .i64 4] w fun e w' => e = .returned (.int .i64 0) ∧ w' = w := by
  go_enter Tryd.func48, Tryd.ntmps48
  go_wp2
  go_ret
  simp
theorem r05hasName5 (w : World) : Calls Tryd.prog 46 #[.int .i64 5] w fun e w' => e = .returned (.bool true) ∧ w' = w := by
  go_enter Tryd.func46, Tryd.ntmps46
  go_wp2
  go_ret
  simp
theorem r05hasNum5 (w : World) : Calls Tryd.prog 49 #[.int .i64 5] w fun e w' => e = .returned (.bool false) ∧ w' = w := by
  go_enter Tryd.func49, Tryd.ntmps49
  go_wp2
  go_ret
  simp
theorem r05textMost5 (w : World) : Calls Tryd.prog 47 #[.int .i64 5] w fun e w' => e = .returned (.int .i64 16) ∧ w' = w := by
  go_enter Tryd.func47, Tryd.ntmps47
  go_wp2
  go_ret
  simp
theorem r05textLeast5 (w : World) : Calls Tryd.prog 48 #[.int .i64 5] w fun e w' => e = .returned (.int .i64 1) ∧ w' = w := by
  go_enter Tryd.func48, Tryd.ntmps48
  go_wp2
  go_ret
  simp
theorem r05hasName6 (w : World) : Calls Tryd.prog 46 #[.int .i64 6] w fun e w' => e = .returned (.bool true) ∧ w' = w := by
  go_enter Tryd.func46, Tryd.ntmps46
  go_wp2
  go_ret
  simp
theorem r05hasNum6 (w : World) : Calls Tryd.prog 49 #[.int .i64 6] w fun e w' => e = .returned (.bool true) ∧ w' = w := by
  go_enter Tryd.func49, Tryd.ntmps49
  go_wp2
  go_ret
  simp
theorem r05textMost6 (w : World) : Calls Tryd.prog 47 #[.int .i64 6] w fun e w' => e = .returned (.int .i64 (-1)) ∧ w' = w := by
  go_enter Tryd.func47, Tryd.ntmps47
  go_wp2
  go_ret
  simp
theorem r05textLeast6 (w : World) : Calls Tryd.prog 48 #[.int .i64 6] w fun e w' => e = .returned (.int .i64 0) ∧ w' = w := by
  go_enter Tryd.func48, Tryd.ntmps48
  go_wp2
  go_ret
  simp
theorem r05hasName7 (w : World) : Calls Tryd.prog 46 #[.int .i64 7] w fun e w' => e = .returned (.bool true) ∧ w' = w := by
  go_enter Tryd.func46, Tryd.ntmps46
  go_wp2
  go_ret
  simp
theorem r05hasNum7 (w : World) : Calls Tryd.prog 49 #[.int .i64 7] w fun e w' => e = .returned (.bool false) ∧ w' = w := by
  go_enter Tryd.func49, Tryd.ntmps49
  go_wp2
  go_ret
  simp
theorem r05textMost7 (w : World) : Calls Tryd.prog 47 #[.int .i64 7] w fun e w' => e = .returned (.int .i64 (-1)) ∧ w' = w := by
  go_enter Tryd.func47, Tryd.ntmps47
  go_wp2
  go_ret
  simp
theorem r05textLeast7 (w : World) : Calls Tryd.prog 48 #[.int .i64 7] w fun e w' => e = .returned (.int .i64 0) ∧ w' = w := by
  go_enter Tryd.func48, Tryd.ntmps48
  go_wp2
  go_ret
  simp
theorem r05hasName8 (w : World) : Calls Tryd.prog 46 #[.int .i64 8] w fun e w' => e = .returned (.bool false) ∧ w' = w := by
  go_enter Tryd.func46, Tryd.ntmps46
  go_wp2
  go_ret
  simp
theorem r05hasNum8 (w : World) : Calls Tryd.prog 49 #[.int .i64 8] w fun e w' => e = .returned (.bool false) ∧ w' = w := by
  go_enter Tryd.func49, Tryd.ntmps49
  go_wp2
  go_ret
  simp
theorem r05textMost8 (w : World) : Calls Tryd.prog 47 #[.int .i64 8] w fun e w' => e = .returned (.int .i64 (-1)) ∧ w' = w := by
  go_enter Tryd.func47, Tryd.ntmps47
  go_wp2
  go_ret
  simp
theorem r05textLeast8 (w : World) : Calls Tryd.prog 48 #[.int .i64 8] w fun e w' => e = .returned (.int .i64 0) ∧ w' = w := by
  go_enter Tryd.func48, Tryd.ntmps48
  go_wp2
  go_ret
  simp
set_option maxHeartbeats 8000000 in
set_option maxRecDepth 100000 in
theorem rCheck1 (o : OV) (hk : o.kind = 1) (w : World) : Calls Tryd.prog 39 #[o.v] w fun e w' => e = .returned (.int .i64 (chkO o)) ∧ Fr No w w' := by
  obtain ⟨kind, name, text, num, most⟩ := o
  dsimp only at hk
  subst hk
  unfold OV.v sv
  dsimp only
  obtain ⟨R, hR⟩ : ∃ R, chkO ⟨1, name, text, num, most⟩ = R := ⟨_, rfl⟩
  rw [hR]
  unfold chkO at hR
  dsimp only at hR
  rw [if_neg (show ¬ ((1 : Int) < 1 ∨ 8 < (1 : Int)) by decide)] at hR
  rw [show hasN 1 = true by decide, show hasT 1 = false by decide, show hasK 1 = false by decide] at hR
  obtain ⟨nb, hnb⟩ : ∃ p : ByteArray, (⟨name.toArray⟩ : ByteArray) = p := ⟨_, rfl⟩
  obtain ⟨tb, htb⟩ : ∃ p : ByteArray, (⟨text.toArray⟩ : ByteArray) = p := ⟨_, rfl⟩
  have hns := sv_size hnb
  have hts := sv_size htb
  rw [hnb, htb]
  obtain ⟨wb, hwb⟩ : ∃ wb, w.alloc (.cells #[.int .i64 1, .string nb, .string tb, .int .i64 num, .int .i64 most] 44 (0, 0)) = wb := ⟨_, rfl⟩
  have HF := Lib.hid (show Fr No w wb by rw [← hwb]; exact (Fr.refl _ _).alloc _)
  have hbk : Bk wb w.heap.size 44 [.int .i64 1, .string nb, .string tb, .int .i64 num, .int .i64 most] := by rw [← hwb]; exact Bk.new w 44 [.int .i64 1, .string nb, .string tb, .int .i64 num, .int .i64 most]
  obtain ⟨y0, y1, y2, y3, y4, yf⟩ := Bk.five hbk
  have HWB := Lib.hid hwb
  clear hbk hwb
  by_cases c1 : nb.size < 1
  · have d1 : decide ((nb.size : Int) < 1) = true := decide_eq_true (by omega)
    have d1' : decide (nb.size < 1) = true := decide_eq_true (by omega)
    rw [if_pos ⟨rfl, .inl (by omega)⟩] at hR
    have HV := Lib.hid hR.symm
    clear hR hns hts
    go_enter Tryd.func39, Tryd.ntmps39
    go_upto_region 1 with (fail)
    rw [HWB.out]
    go_wp2_with fail
    refine (r05hasName1 _).mono ?_
    rintro e w' ⟨rfl, rfl⟩
    go_wp2
    go_ret
    refine ⟨?_, by first | exact HF.out | exact HF.out.drew | exact HF.out.drewN _⟩
    first | rfl | simp [HV.out] | (rw [HV.out]; rfl)
  have d1 : decide ((nb.size : Int) < 1) = false := decide_eq_false (by omega)
  have d1' : decide (nb.size < 1) = false := decide_eq_false (by omega)
  by_cases c2 : 16 < nb.size
  · have d2 : decide ((16 : Int) < (nb.size : Int)) = true := decide_eq_true (by omega)
    have d2' : decide (16 < nb.size) = true := decide_eq_true (by omega)
    rw [if_pos ⟨rfl, .inr (by omega)⟩] at hR
    have HV := Lib.hid hR.symm
    clear hR hns hts
    go_enter Tryd.func39, Tryd.ntmps39
    go_upto_region 1 with (fail)
    rw [HWB.out]
    go_wp2_with fail
    refine (r05hasName1 _).mono ?_
    rintro e w' ⟨rfl, rfl⟩
    go_wp2
    go_ret
    refine ⟨?_, by first | exact HF.out | exact HF.out.drew | exact HF.out.drewN _⟩
    first | rfl | simp [HV.out] | (rw [HV.out]; rfl)
  have d2 : decide ((16 : Int) < (nb.size : Int)) = false := decide_eq_false (by omega)
  have d2' : decide (16 < nb.size) = false := decide_eq_false (by omega)
  rw [if_neg (fun q => by rcases q.2 with q | q <;> omega)] at hR
  rw [if_neg (fun q => by rcases q with ⟨q, _⟩ | ⟨q, _⟩ <;> exact absurd q (by decide))] at hR
  rw [if_neg (fun q => by cases q.1)] at hR
  rw [if_neg (fun q => absurd q.1 (by decide))] at hR
  by_cases c10 : text ≠ []
  · obtain ⟨x1, x2, x3, x4⟩ := empty_no htb c10
    rw [if_pos (.inr (.inl ⟨rfl, c10⟩))] at hR
    have HV := Lib.hid hR.symm
    clear hR hns hts
    go_enter Tryd.func39, Tryd.ntmps39
    go_upto_region 1 with (fail)
    rw [HWB.out]
    go_wp2_with fail
    refine (r05hasName1 _).mono ?_
    rintro e w' ⟨rfl, rfl⟩
    go_wp2
    go_quiet (first | (go_at_call 47; refine Calls.quiet_of_same (r05textMost1 _)) | (go_at_call 48; refine Calls.quiet_of_same (r05textLeast1 _)))
    go_wp2_with fail
    refine (r05hasNum1 _).mono ?_
    rintro e w' ⟨rfl, rfl⟩
    go_wp2_with fail
    refine (r05hasName1 _).mono ?_
    rintro e w' ⟨rfl, rfl⟩
    go_wp2_with fail
    refine (r05textMost1 _).mono ?_
    rintro e w' ⟨rfl, rfl⟩
    go_wp2
    go_ret
    refine ⟨?_, by first | exact HF.out | exact HF.out.drew | exact HF.out.drewN _⟩
    first | rfl | simp [HV.out] | (rw [HV.out]; rfl)
  have c10 : text = [] := Decidable.not_not.1 c10
  subst c10
  obtain rfl : tb = ⟨#[]⟩ := htb.symm
  by_cases c11 : num ≠ 0
  · have x5 : (num != 0) = true := bne_iff_ne.2 c11
    rw [if_pos (.inr (.inr (.inl ⟨rfl, c11⟩)))] at hR
    have HV := Lib.hid hR.symm
    clear hR hns hts
    go_enter Tryd.func39, Tryd.ntmps39
    go_upto_region 1 with (fail)
    rw [HWB.out]
    go_wp2_with fail
    refine (r05hasName1 _).mono ?_
    rintro e w' ⟨rfl, rfl⟩
    go_wp2
    go_quiet (first | (go_at_call 47; refine Calls.quiet_of_same (r05textMost1 _)) | (go_at_call 48; refine Calls.quiet_of_same (r05textLeast1 _)))
    go_wp2_with fail
    refine (r05hasNum1 _).mono ?_
    rintro e w' ⟨rfl, rfl⟩
    go_wp2_with fail
    refine (r05hasName1 _).mono ?_
    rintro e w' ⟨rfl, rfl⟩
    go_wp2_with fail
    refine (r05textMost1 _).mono ?_
    rintro e w' ⟨rfl, rfl⟩
    go_wp2_with fail
    refine (r05hasNum1 _).mono ?_
    rintro e w' ⟨rfl, rfl⟩
    go_wp2
    go_ret
    refine ⟨?_, by first | exact HF.out | exact HF.out.drew | exact HF.out.drewN _⟩
    first | rfl | simp [HV.out] | (rw [HV.out]; rfl)
  have c11 : num = 0 := Decidable.not_not.1 c11
  subst c11
  by_cases c12 : most ≠ 0
  · have x6 : (most != 0) = true := bne_iff_ne.2 c12
    rw [if_pos (.inr (.inr (.inr ⟨by decide, c12⟩)))] at hR
    have HV := Lib.hid hR.symm
    clear hR hns hts
    go_enter Tryd.func39, Tryd.ntmps39
    go_upto_region 1 with (fail)
    rw [HWB.out]
    go_wp2_with fail
    refine (r05hasName1 _).mono ?_
    rintro e w' ⟨rfl, rfl⟩
    go_wp2
    go_quiet (first | (go_at_call 47; refine Calls.quiet_of_same (r05textMost1 _)) | (go_at_call 48; refine Calls.quiet_of_same (r05textLeast1 _)))
    go_wp2_with fail
    refine (r05hasNum1 _).mono ?_
    rintro e w' ⟨rfl, rfl⟩
    go_wp2_with fail
    refine (r05hasName1 _).mono ?_
    rintro e w' ⟨rfl, rfl⟩
    go_wp2_with fail
    refine (r05textMost1 _).mono ?_
    rintro e w' ⟨rfl, rfl⟩
    go_wp2_with fail
    refine (r05hasNum1 _).mono ?_
    rintro e w' ⟨rfl, rfl⟩
    go_wp2
    go_ret
    refine ⟨?_, by first | exact HF.out | exact HF.out.drew | exact HF.out.drewN _⟩
    first | rfl | simp [HV.out] | (rw [HV.out]; rfl)
  have c12 : most = 0 := Decidable.not_not.1 c12
  subst c12
  rw [if_neg (by simp)] at hR
  have HV := Lib.hid hR.symm
  clear hR hns hts
  go_enter Tryd.func39, Tryd.ntmps39
  go_upto_region 1 with (fail)
  rw [HWB.out]
  go_wp2_with fail
  refine (r05hasName1 _).mono ?_
  rintro e w' ⟨rfl, rfl⟩
  go_wp2
  go_quiet (first | (go_at_call 47; refine Calls.quiet_of_same (r05textMost1 _)) | (go_at_call 48; refine Calls.quiet_of_same (r05textLeast1 _)))
  go_wp2_with fail
  refine (r05hasNum1 _).mono ?_
  rintro e w' ⟨rfl, rfl⟩
  go_wp2_with fail
  refine (r05hasName1 _).mono ?_
  rintro e w' ⟨rfl, rfl⟩
  go_wp2_with fail
  refine (r05textMost1 _).mono ?_
  rintro e w' ⟨rfl, rfl⟩
  go_wp2_with fail
  refine (r05hasNum1 _).mono ?_
  rintro e w' ⟨rfl, rfl⟩
  go_wp2
  go_ret
  refine ⟨?_, by first | exact HF.out | exact HF.out.drew | exact HF.out.drewN _⟩
  first | rfl | simp [HV.out] | (rw [HV.out]; rfl)
set_option maxHeartbeats 8000000 in
set_option maxRecDepth 100000 in
theorem rCheck2 (o : OV) (hk : o.kind = 2) (w : World) : Calls Tryd.prog 39 #[o.v] w fun e w' => e = .returned (.int .i64 (chkO o)) ∧ Fr No w w' := by
  obtain ⟨kind, name, text, num, most⟩ := o
  dsimp only at hk
  subst hk
  unfold OV.v sv
  dsimp only
  obtain ⟨R, hR⟩ : ∃ R, chkO ⟨2, name, text, num, most⟩ = R := ⟨_, rfl⟩
  rw [hR]
  unfold chkO at hR
  dsimp only at hR
  rw [if_neg (show ¬ ((2 : Int) < 1 ∨ 8 < (2 : Int)) by decide)] at hR
  rw [show hasN 2 = true by decide, show hasT 2 = false by decide, show hasK 2 = false by decide] at hR
  obtain ⟨nb, hnb⟩ : ∃ p : ByteArray, (⟨name.toArray⟩ : ByteArray) = p := ⟨_, rfl⟩
  obtain ⟨tb, htb⟩ : ∃ p : ByteArray, (⟨text.toArray⟩ : ByteArray) = p := ⟨_, rfl⟩
  have hns := sv_size hnb
  have hts := sv_size htb
  rw [hnb, htb]
  obtain ⟨wb, hwb⟩ : ∃ wb, w.alloc (.cells #[.int .i64 2, .string nb, .string tb, .int .i64 num, .int .i64 most] 44 (0, 0)) = wb := ⟨_, rfl⟩
  have HF := Lib.hid (show Fr No w wb by rw [← hwb]; exact (Fr.refl _ _).alloc _)
  have hbk : Bk wb w.heap.size 44 [.int .i64 2, .string nb, .string tb, .int .i64 num, .int .i64 most] := by rw [← hwb]; exact Bk.new w 44 [.int .i64 2, .string nb, .string tb, .int .i64 num, .int .i64 most]
  obtain ⟨y0, y1, y2, y3, y4, yf⟩ := Bk.five hbk
  have HWB := Lib.hid hwb
  clear hbk hwb
  by_cases c1 : nb.size < 1
  · have d1 : decide ((nb.size : Int) < 1) = true := decide_eq_true (by omega)
    have d1' : decide (nb.size < 1) = true := decide_eq_true (by omega)
    rw [if_pos ⟨rfl, .inl (by omega)⟩] at hR
    have HV := Lib.hid hR.symm
    clear hR hns hts
    go_enter Tryd.func39, Tryd.ntmps39
    go_upto_region 1 with (fail)
    rw [HWB.out]
    go_wp2_with fail
    refine (r05hasName2 _).mono ?_
    rintro e w' ⟨rfl, rfl⟩
    go_wp2
    go_ret
    refine ⟨?_, by first | exact HF.out | exact HF.out.drew | exact HF.out.drewN _⟩
    first | rfl | simp [HV.out] | (rw [HV.out]; rfl)
  have d1 : decide ((nb.size : Int) < 1) = false := decide_eq_false (by omega)
  have d1' : decide (nb.size < 1) = false := decide_eq_false (by omega)
  by_cases c2 : 16 < nb.size
  · have d2 : decide ((16 : Int) < (nb.size : Int)) = true := decide_eq_true (by omega)
    have d2' : decide (16 < nb.size) = true := decide_eq_true (by omega)
    rw [if_pos ⟨rfl, .inr (by omega)⟩] at hR
    have HV := Lib.hid hR.symm
    clear hR hns hts
    go_enter Tryd.func39, Tryd.ntmps39
    go_upto_region 1 with (fail)
    rw [HWB.out]
    go_wp2_with fail
    refine (r05hasName2 _).mono ?_
    rintro e w' ⟨rfl, rfl⟩
    go_wp2
    go_ret
    refine ⟨?_, by first | exact HF.out | exact HF.out.drew | exact HF.out.drewN _⟩
    first | rfl | simp [HV.out] | (rw [HV.out]; rfl)
  have d2 : decide ((16 : Int) < (nb.size : Int)) = false := decide_eq_false (by omega)
  have d2' : decide (16 < nb.size) = false := decide_eq_false (by omega)
  rw [if_neg (fun q => by rcases q.2 with q | q <;> omega)] at hR
  rw [if_neg (fun q => by rcases q with ⟨q, _⟩ | ⟨q, _⟩ <;> exact absurd q (by decide))] at hR
  rw [if_neg (fun q => by cases q.1)] at hR
  rw [if_neg (fun q => absurd q.1 (by decide))] at hR
  by_cases c10 : text ≠ []
  · obtain ⟨x1, x2, x3, x4⟩ := empty_no htb c10
    rw [if_pos (.inr (.inl ⟨rfl, c10⟩))] at hR
    have HV := Lib.hid hR.symm
    clear hR hns hts
    go_enter Tryd.func39, Tryd.ntmps39
    go_upto_region 1 with (fail)
    rw [HWB.out]
    go_wp2_with fail
    refine (r05hasName2 _).mono ?_
    rintro e w' ⟨rfl, rfl⟩
    go_wp2
    go_quiet (first | (go_at_call 47; refine Calls.quiet_of_same (r05textMost2 _)) | (go_at_call 48; refine Calls.quiet_of_same (r05textLeast2 _)))
    go_wp2_with fail
    refine (r05hasNum2 _).mono ?_
    rintro e w' ⟨rfl, rfl⟩
    go_wp2_with fail
    refine (r05hasName2 _).mono ?_
    rintro e w' ⟨rfl, rfl⟩
    go_wp2_with fail
    refine (r05textMost2 _).mono ?_
    rintro e w' ⟨rfl, rfl⟩
    go_wp2
    go_ret
    refine ⟨?_, by first | exact HF.out | exact HF.out.drew | exact HF.out.drewN _⟩
    first | rfl | simp [HV.out] | (rw [HV.out]; rfl)
  have c10 : text = [] := Decidable.not_not.1 c10
  subst c10
  obtain rfl : tb = ⟨#[]⟩ := htb.symm
  by_cases c11 : num ≠ 0
  · have x5 : (num != 0) = true := bne_iff_ne.2 c11
    rw [if_pos (.inr (.inr (.inl ⟨rfl, c11⟩)))] at hR
    have HV := Lib.hid hR.symm
    clear hR hns hts
    go_enter Tryd.func39, Tryd.ntmps39
    go_upto_region 1 with (fail)
    rw [HWB.out]
    go_wp2_with fail
    refine (r05hasName2 _).mono ?_
    rintro e w' ⟨rfl, rfl⟩
    go_wp2
    go_quiet (first | (go_at_call 47; refine Calls.quiet_of_same (r05textMost2 _)) | (go_at_call 48; refine Calls.quiet_of_same (r05textLeast2 _)))
    go_wp2_with fail
    refine (r05hasNum2 _).mono ?_
    rintro e w' ⟨rfl, rfl⟩
    go_wp2_with fail
    refine (r05hasName2 _).mono ?_
    rintro e w' ⟨rfl, rfl⟩
    go_wp2_with fail
    refine (r05textMost2 _).mono ?_
    rintro e w' ⟨rfl, rfl⟩
    go_wp2_with fail
    refine (r05hasNum2 _).mono ?_
    rintro e w' ⟨rfl, rfl⟩
    go_wp2
    go_ret
    refine ⟨?_, by first | exact HF.out | exact HF.out.drew | exact HF.out.drewN _⟩
    first | rfl | simp [HV.out] | (rw [HV.out]; rfl)
  have c11 : num = 0 := Decidable.not_not.1 c11
  subst c11
  by_cases c12 : most ≠ 0
  · have x6 : (most != 0) = true := bne_iff_ne.2 c12
    rw [if_pos (.inr (.inr (.inr ⟨by decide, c12⟩)))] at hR
    have HV := Lib.hid hR.symm
    clear hR hns hts
    go_enter Tryd.func39, Tryd.ntmps39
    go_upto_region 1 with (fail)
    rw [HWB.out]
    go_wp2_with fail
    refine (r05hasName2 _).mono ?_
    rintro e w' ⟨rfl, rfl⟩
    go_wp2
    go_quiet (first | (go_at_call 47; refine Calls.quiet_of_same (r05textMost2 _)) | (go_at_call 48; refine Calls.quiet_of_same (r05textLeast2 _)))
    go_wp2_with fail
    refine (r05hasNum2 _).mono ?_
    rintro e w' ⟨rfl, rfl⟩
    go_wp2_with fail
    refine (r05hasName2 _).mono ?_
    rintro e w' ⟨rfl, rfl⟩
    go_wp2_with fail
    refine (r05textMost2 _).mono ?_
    rintro e w' ⟨rfl, rfl⟩
    go_wp2_with fail
    refine (r05hasNum2 _).mono ?_
    rintro e w' ⟨rfl, rfl⟩
    go_wp2
    go_ret
    refine ⟨?_, by first | exact HF.out | exact HF.out.drew | exact HF.out.drewN _⟩
    first | rfl | simp [HV.out] | (rw [HV.out]; rfl)
  have c12 : most = 0 := Decidable.not_not.1 c12
  subst c12
  rw [if_neg (by simp)] at hR
  have HV := Lib.hid hR.symm
  clear hR hns hts
  go_enter Tryd.func39, Tryd.ntmps39
  go_upto_region 1 with (fail)
  rw [HWB.out]
  go_wp2_with fail
  refine (r05hasName2 _).mono ?_
  rintro e w' ⟨rfl, rfl⟩
  go_wp2
  go_quiet (first | (go_at_call 47; refine Calls.quiet_of_same (r05textMost2 _)) | (go_at_call 48; refine Calls.quiet_of_same (r05textLeast2 _)))
  go_wp2_with fail
  refine (r05hasNum2 _).mono ?_
  rintro e w' ⟨rfl, rfl⟩
  go_wp2_with fail
  refine (r05hasName2 _).mono ?_
  rintro e w' ⟨rfl, rfl⟩
  go_wp2_with fail
  refine (r05textMost2 _).mono ?_
  rintro e w' ⟨rfl, rfl⟩
  go_wp2_with fail
  refine (r05hasNum2 _).mono ?_
  rintro e w' ⟨rfl, rfl⟩
  go_wp2
  go_ret
  refine ⟨?_, by first | exact HF.out | exact HF.out.drew | exact HF.out.drewN _⟩
  first | rfl | simp [HV.out] | (rw [HV.out]; rfl)
set_option maxHeartbeats 8000000 in
set_option maxRecDepth 100000 in
theorem rCheck3 (o : OV) (hk : o.kind = 3) (w : World) : Calls Tryd.prog 39 #[o.v] w fun e w' => e = .returned (.int .i64 (chkO o)) ∧ Fr No w w' := by
  obtain ⟨kind, name, text, num, most⟩ := o
  dsimp only at hk
  subst hk
  unfold OV.v sv
  dsimp only
  obtain ⟨R, hR⟩ : ∃ R, chkO ⟨3, name, text, num, most⟩ = R := ⟨_, rfl⟩
  rw [hR]
  unfold chkO at hR
  dsimp only at hR
  rw [if_neg (show ¬ ((3 : Int) < 1 ∨ 8 < (3 : Int)) by decide)] at hR
  rw [show hasN 3 = true by decide, show hasT 3 = true by decide, show hasK 3 = false by decide] at hR
  obtain ⟨nb, hnb⟩ : ∃ p : ByteArray, (⟨name.toArray⟩ : ByteArray) = p := ⟨_, rfl⟩
  obtain ⟨tb, htb⟩ : ∃ p : ByteArray, (⟨text.toArray⟩ : ByteArray) = p := ⟨_, rfl⟩
  have hns := sv_size hnb
  have hts := sv_size htb
  rw [hnb, htb]
  obtain ⟨wb, hwb⟩ : ∃ wb, w.alloc (.cells #[.int .i64 3, .string nb, .string tb, .int .i64 num, .int .i64 most] 44 (0, 0)) = wb := ⟨_, rfl⟩
  have HF := Lib.hid (show Fr No w wb by rw [← hwb]; exact (Fr.refl _ _).alloc _)
  have hbk : Bk wb w.heap.size 44 [.int .i64 3, .string nb, .string tb, .int .i64 num, .int .i64 most] := by rw [← hwb]; exact Bk.new w 44 [.int .i64 3, .string nb, .string tb, .int .i64 num, .int .i64 most]
  obtain ⟨y0, y1, y2, y3, y4, yf⟩ := Bk.five hbk
  have HWB := Lib.hid hwb
  clear hbk hwb
  by_cases c1 : nb.size < 1
  · have d1 : decide ((nb.size : Int) < 1) = true := decide_eq_true (by omega)
    have d1' : decide (nb.size < 1) = true := decide_eq_true (by omega)
    rw [if_pos ⟨rfl, .inl (by omega)⟩] at hR
    have HV := Lib.hid hR.symm
    clear hR hns hts
    go_enter Tryd.func39, Tryd.ntmps39
    go_upto_region 1 with (fail)
    rw [HWB.out]
    go_wp2_with fail
    refine (r05hasName3 _).mono ?_
    rintro e w' ⟨rfl, rfl⟩
    go_wp2
    go_ret
    refine ⟨?_, by first | exact HF.out | exact HF.out.drew | exact HF.out.drewN _⟩
    first | rfl | simp [HV.out] | (rw [HV.out]; rfl)
  have d1 : decide ((nb.size : Int) < 1) = false := decide_eq_false (by omega)
  have d1' : decide (nb.size < 1) = false := decide_eq_false (by omega)
  by_cases c2 : 16 < nb.size
  · have d2 : decide ((16 : Int) < (nb.size : Int)) = true := decide_eq_true (by omega)
    have d2' : decide (16 < nb.size) = true := decide_eq_true (by omega)
    rw [if_pos ⟨rfl, .inr (by omega)⟩] at hR
    have HV := Lib.hid hR.symm
    clear hR hns hts
    go_enter Tryd.func39, Tryd.ntmps39
    go_upto_region 1 with (fail)
    rw [HWB.out]
    go_wp2_with fail
    refine (r05hasName3 _).mono ?_
    rintro e w' ⟨rfl, rfl⟩
    go_wp2
    go_ret
    refine ⟨?_, by first | exact HF.out | exact HF.out.drew | exact HF.out.drewN _⟩
    first | rfl | simp [HV.out] | (rw [HV.out]; rfl)
  have d2 : decide ((16 : Int) < (nb.size : Int)) = false := decide_eq_false (by omega)
  have d2' : decide (16 < nb.size) = false := decide_eq_false (by omega)
  rw [if_neg (fun q => by rcases q.2 with q | q <;> omega)] at hR
  by_cases c3 : 64 < tb.size
  · have d0 : decide ((tb.size : Int) < 0) = false := decide_eq_false (by omega)
    have d3 : decide ((64 : Int) < (tb.size : Int)) = true := decide_eq_true (by omega)
    have d3' : decide (64 < tb.size) = true := decide_eq_true c3
    rw [if_pos (.inr ⟨rfl, by omega⟩)] at hR
    have HV := Lib.hid hR.symm
    clear hR hns hts
    go_enter Tryd.func39, Tryd.ntmps39
    go_upto_region 1 with (fail)
    rw [HWB.out]
    go_wp2_with fail
    refine (r05hasName3 _).mono ?_
    rintro e w' ⟨rfl, rfl⟩
    go_wp2
    go_quiet (first | (go_at_call 47; refine Calls.quiet_of_same (r05textMost3 _)) | (go_at_call 48; refine Calls.quiet_of_same (r05textLeast3 _)))
    go_wp2
    go_ret
    refine ⟨?_, by first | exact HF.out | exact HF.out.drew | exact HF.out.drewN _⟩
    first | rfl | simp [HV.out] | (rw [HV.out]; rfl)
  have d0 : decide ((tb.size : Int) < 0) = false := decide_eq_false (by omega)
  have d3 : decide ((64 : Int) < (tb.size : Int)) = false := decide_eq_false (by omega)
  have d3' : decide (64 < tb.size) = false := decide_eq_false c3
  rw [if_neg (fun q => by rcases q with ⟨q, _⟩ | ⟨_, q⟩; exact absurd q (by decide); omega)] at hR
  rw [if_neg (fun q => by cases q.1)] at hR
  rw [if_neg (fun q => absurd q.1 (by decide))] at hR
  by_cases c11 : num ≠ 0
  · have x5 : (num != 0) = true := bne_iff_ne.2 c11
    rw [if_pos (.inr (.inr (.inl ⟨rfl, c11⟩)))] at hR
    have HV := Lib.hid hR.symm
    clear hR hns hts
    go_enter Tryd.func39, Tryd.ntmps39
    go_upto_region 1 with (fail)
    rw [HWB.out]
    go_wp2_with fail
    refine (r05hasName3 _).mono ?_
    rintro e w' ⟨rfl, rfl⟩
    go_wp2
    go_quiet (first | (go_at_call 47; refine Calls.quiet_of_same (r05textMost3 _)) | (go_at_call 48; refine Calls.quiet_of_same (r05textLeast3 _)))
    go_wp2_with fail
    refine (r05hasNum3 _).mono ?_
    rintro e w' ⟨rfl, rfl⟩
    go_wp2_with fail
    refine (r05hasName3 _).mono ?_
    rintro e w' ⟨rfl, rfl⟩
    go_wp2_with fail
    refine (r05textMost3 _).mono ?_
    rintro e w' ⟨rfl, rfl⟩
    go_wp2_with fail
    refine (r05hasNum3 _).mono ?_
    rintro e w' ⟨rfl, rfl⟩
    go_wp2
    go_ret
    refine ⟨?_, by first | exact HF.out | exact HF.out.drew | exact HF.out.drewN _⟩
    first | rfl | simp [HV.out] | (rw [HV.out]; rfl)
  have c11 : num = 0 := Decidable.not_not.1 c11
  subst c11
  by_cases c12 : most ≠ 0
  · have x6 : (most != 0) = true := bne_iff_ne.2 c12
    rw [if_pos (.inr (.inr (.inr ⟨by decide, c12⟩)))] at hR
    have HV := Lib.hid hR.symm
    clear hR hns hts
    go_enter Tryd.func39, Tryd.ntmps39
    go_upto_region 1 with (fail)
    rw [HWB.out]
    go_wp2_with fail
    refine (r05hasName3 _).mono ?_
    rintro e w' ⟨rfl, rfl⟩
    go_wp2
    go_quiet (first | (go_at_call 47; refine Calls.quiet_of_same (r05textMost3 _)) | (go_at_call 48; refine Calls.quiet_of_same (r05textLeast3 _)))
    go_wp2_with fail
    refine (r05hasNum3 _).mono ?_
    rintro e w' ⟨rfl, rfl⟩
    go_wp2_with fail
    refine (r05hasName3 _).mono ?_
    rintro e w' ⟨rfl, rfl⟩
    go_wp2_with fail
    refine (r05textMost3 _).mono ?_
    rintro e w' ⟨rfl, rfl⟩
    go_wp2_with fail
    refine (r05hasNum3 _).mono ?_
    rintro e w' ⟨rfl, rfl⟩
    go_wp2
    go_ret
    refine ⟨?_, by first | exact HF.out | exact HF.out.drew | exact HF.out.drewN _⟩
    first | rfl | simp [HV.out] | (rw [HV.out]; rfl)
  have c12 : most = 0 := Decidable.not_not.1 c12
  subst c12
  rw [if_neg (by simp)] at hR
  have HV := Lib.hid hR.symm
  clear hR hns hts
  go_enter Tryd.func39, Tryd.ntmps39
  go_upto_region 1 with (fail)
  rw [HWB.out]
  go_wp2_with fail
  refine (r05hasName3 _).mono ?_
  rintro e w' ⟨rfl, rfl⟩
  go_wp2
  go_quiet (first | (go_at_call 47; refine Calls.quiet_of_same (r05textMost3 _)) | (go_at_call 48; refine Calls.quiet_of_same (r05textLeast3 _)))
  go_wp2_with fail
  refine (r05hasNum3 _).mono ?_
  rintro e w' ⟨rfl, rfl⟩
  go_wp2_with fail
  refine (r05hasName3 _).mono ?_
  rintro e w' ⟨rfl, rfl⟩
  go_wp2_with fail
  refine (r05textMost3 _).mono ?_
  rintro e w' ⟨rfl, rfl⟩
  go_wp2_with fail
  refine (r05hasNum3 _).mono ?_
  rintro e w' ⟨rfl, rfl⟩
  go_wp2
  go_ret
  refine ⟨?_, by first | exact HF.out | exact HF.out.drew | exact HF.out.drewN _⟩
  first | rfl | simp [HV.out] | (rw [HV.out]; rfl)
set_option maxHeartbeats 8000000 in
set_option maxRecDepth 100000 in
theorem rCheck4 (o : OV) (hk : o.kind = 4) (w : World) : Calls Tryd.prog 39 #[o.v] w fun e w' => e = .returned (.int .i64 (chkO o)) ∧ Fr No w w' := by
  obtain ⟨kind, name, text, num, most⟩ := o
  dsimp only at hk
  subst hk
  unfold OV.v sv
  dsimp only
  obtain ⟨R, hR⟩ : ∃ R, chkO ⟨4, name, text, num, most⟩ = R := ⟨_, rfl⟩
  rw [hR]
  unfold chkO at hR
  dsimp only at hR
  rw [if_neg (show ¬ ((4 : Int) < 1 ∨ 8 < (4 : Int)) by decide)] at hR
  rw [show hasN 4 = true by decide, show hasT 4 = false by decide, show hasK 4 = true by decide] at hR
  obtain ⟨nb, hnb⟩ : ∃ p : ByteArray, (⟨name.toArray⟩ : ByteArray) = p := ⟨_, rfl⟩
  obtain ⟨tb, htb⟩ : ∃ p : ByteArray, (⟨text.toArray⟩ : ByteArray) = p := ⟨_, rfl⟩
  have hns := sv_size hnb
  have hts := sv_size htb
  rw [hnb, htb]
  obtain ⟨wb, hwb⟩ : ∃ wb, w.alloc (.cells #[.int .i64 4, .string nb, .string tb, .int .i64 num, .int .i64 most] 44 (0, 0)) = wb := ⟨_, rfl⟩
  have HF := Lib.hid (show Fr No w wb by rw [← hwb]; exact (Fr.refl _ _).alloc _)
  have hbk : Bk wb w.heap.size 44 [.int .i64 4, .string nb, .string tb, .int .i64 num, .int .i64 most] := by rw [← hwb]; exact Bk.new w 44 [.int .i64 4, .string nb, .string tb, .int .i64 num, .int .i64 most]
  obtain ⟨y0, y1, y2, y3, y4, yf⟩ := Bk.five hbk
  have HWB := Lib.hid hwb
  clear hbk hwb
  by_cases c1 : nb.size < 1
  · have d1 : decide ((nb.size : Int) < 1) = true := decide_eq_true (by omega)
    have d1' : decide (nb.size < 1) = true := decide_eq_true (by omega)
    rw [if_pos ⟨rfl, .inl (by omega)⟩] at hR
    have HV := Lib.hid hR.symm
    clear hR hns hts
    go_enter Tryd.func39, Tryd.ntmps39
    go_upto_region 1 with (fail)
    rw [HWB.out]
    go_wp2_with fail
    refine (r05hasName4 _).mono ?_
    rintro e w' ⟨rfl, rfl⟩
    go_wp2
    go_ret
    refine ⟨?_, by first | exact HF.out | exact HF.out.drew | exact HF.out.drewN _⟩
    first | rfl | simp [HV.out] | (rw [HV.out]; rfl)
  have d1 : decide ((nb.size : Int) < 1) = false := decide_eq_false (by omega)
  have d1' : decide (nb.size < 1) = false := decide_eq_false (by omega)
  by_cases c2 : 16 < nb.size
  · have d2 : decide ((16 : Int) < (nb.size : Int)) = true := decide_eq_true (by omega)
    have d2' : decide (16 < nb.size) = true := decide_eq_true (by omega)
    rw [if_pos ⟨rfl, .inr (by omega)⟩] at hR
    have HV := Lib.hid hR.symm
    clear hR hns hts
    go_enter Tryd.func39, Tryd.ntmps39
    go_upto_region 1 with (fail)
    rw [HWB.out]
    go_wp2_with fail
    refine (r05hasName4 _).mono ?_
    rintro e w' ⟨rfl, rfl⟩
    go_wp2
    go_ret
    refine ⟨?_, by first | exact HF.out | exact HF.out.drew | exact HF.out.drewN _⟩
    first | rfl | simp [HV.out] | (rw [HV.out]; rfl)
  have d2 : decide ((16 : Int) < (nb.size : Int)) = false := decide_eq_false (by omega)
  have d2' : decide (16 < nb.size) = false := decide_eq_false (by omega)
  rw [if_neg (fun q => by rcases q.2 with q | q <;> omega)] at hR
  rw [if_neg (fun q => by rcases q with ⟨q, _⟩ | ⟨q, _⟩ <;> exact absurd q (by decide))] at hR
  by_cases c5 : num < 0
  · have d6 : decide (num < 0) = true := decide_eq_true c5
    rw [if_pos ⟨rfl, .inl c5⟩] at hR
    have HV := Lib.hid hR.symm
    clear hR hns hts
    go_enter Tryd.func39, Tryd.ntmps39
    go_upto_region 1 with (fail)
    rw [HWB.out]
    go_wp2_with fail
    refine (r05hasName4 _).mono ?_
    rintro e w' ⟨rfl, rfl⟩
    go_wp2
    go_quiet (first | (go_at_call 47; refine Calls.quiet_of_same (r05textMost4 _)) | (go_at_call 48; refine Calls.quiet_of_same (r05textLeast4 _)))
    go_wp2_with fail
    refine (r05hasNum4 _).mono ?_
    rintro e w' ⟨rfl, rfl⟩
    go_wp2
    go_ret
    refine ⟨?_, by first | exact HF.out | exact HF.out.drew | exact HF.out.drewN _⟩
    first | rfl | simp [HV.out] | (rw [HV.out]; rfl)
  have d6 : decide (num < 0) = false := decide_eq_false c5
  by_cases c6 : 1099511627776 < num
  · have d7 : decide (1099511627776 < num) = true := decide_eq_true c6
    rw [if_pos ⟨rfl, .inr c6⟩] at hR
    have HV := Lib.hid hR.symm
    clear hR hns hts
    go_enter Tryd.func39, Tryd.ntmps39
    go_upto_region 1 with (fail)
    rw [HWB.out]
    go_wp2_with fail
    refine (r05hasName4 _).mono ?_
    rintro e w' ⟨rfl, rfl⟩
    go_wp2
    go_quiet (first | (go_at_call 47; refine Calls.quiet_of_same (r05textMost4 _)) | (go_at_call 48; refine Calls.quiet_of_same (r05textLeast4 _)))
    go_wp2_with fail
    refine (r05hasNum4 _).mono ?_
    rintro e w' ⟨rfl, rfl⟩
    go_wp2
    go_ret
    refine ⟨?_, by first | exact HF.out | exact HF.out.drew | exact HF.out.drewN _⟩
    first | rfl | simp [HV.out] | (rw [HV.out]; rfl)
  have d7 : decide (1099511627776 < num) = false := decide_eq_false c6
  rw [if_neg (fun q => by rcases q.2 with q | q; exact c5 q; exact c6 q)] at hR
  rw [if_neg (fun q => absurd q.1 (by decide))] at hR
  by_cases c10 : text ≠ []
  · obtain ⟨x1, x2, x3, x4⟩ := empty_no htb c10
    rw [if_pos (.inr (.inl ⟨rfl, c10⟩))] at hR
    have HV := Lib.hid hR.symm
    clear hR hns hts
    go_enter Tryd.func39, Tryd.ntmps39
    go_upto_region 1 with (fail)
    rw [HWB.out]
    go_wp2_with fail
    refine (r05hasName4 _).mono ?_
    rintro e w' ⟨rfl, rfl⟩
    go_wp2
    go_quiet (first | (go_at_call 47; refine Calls.quiet_of_same (r05textMost4 _)) | (go_at_call 48; refine Calls.quiet_of_same (r05textLeast4 _)))
    go_wp2_with fail
    refine (r05hasNum4 _).mono ?_
    rintro e w' ⟨rfl, rfl⟩
    go_wp2_with fail
    refine (r05hasName4 _).mono ?_
    rintro e w' ⟨rfl, rfl⟩
    go_wp2_with fail
    refine (r05textMost4 _).mono ?_
    rintro e w' ⟨rfl, rfl⟩
    go_wp2
    go_ret
    refine ⟨?_, by first | exact HF.out | exact HF.out.drew | exact HF.out.drewN _⟩
    first | rfl | simp [HV.out] | (rw [HV.out]; rfl)
  have c10 : text = [] := Decidable.not_not.1 c10
  subst c10
  obtain rfl : tb = ⟨#[]⟩ := htb.symm
  by_cases c12 : most ≠ 0
  · have x6 : (most != 0) = true := bne_iff_ne.2 c12
    rw [if_pos (.inr (.inr (.inr ⟨by decide, c12⟩)))] at hR
    have HV := Lib.hid hR.symm
    clear hR hns hts
    go_enter Tryd.func39, Tryd.ntmps39
    go_upto_region 1 with (fail)
    rw [HWB.out]
    go_wp2_with fail
    refine (r05hasName4 _).mono ?_
    rintro e w' ⟨rfl, rfl⟩
    go_wp2
    go_quiet (first | (go_at_call 47; refine Calls.quiet_of_same (r05textMost4 _)) | (go_at_call 48; refine Calls.quiet_of_same (r05textLeast4 _)))
    go_wp2_with fail
    refine (r05hasNum4 _).mono ?_
    rintro e w' ⟨rfl, rfl⟩
    go_wp2_with fail
    refine (r05hasName4 _).mono ?_
    rintro e w' ⟨rfl, rfl⟩
    go_wp2_with fail
    refine (r05textMost4 _).mono ?_
    rintro e w' ⟨rfl, rfl⟩
    go_wp2_with fail
    refine (r05hasNum4 _).mono ?_
    rintro e w' ⟨rfl, rfl⟩
    go_wp2
    go_ret
    refine ⟨?_, by first | exact HF.out | exact HF.out.drew | exact HF.out.drewN _⟩
    first | rfl | simp [HV.out] | (rw [HV.out]; rfl)
  have c12 : most = 0 := Decidable.not_not.1 c12
  subst c12
  rw [if_neg (by simp)] at hR
  have HV := Lib.hid hR.symm
  clear hR hns hts
  go_enter Tryd.func39, Tryd.ntmps39
  go_upto_region 1 with (fail)
  rw [HWB.out]
  go_wp2_with fail
  refine (r05hasName4 _).mono ?_
  rintro e w' ⟨rfl, rfl⟩
  go_wp2
  go_quiet (first | (go_at_call 47; refine Calls.quiet_of_same (r05textMost4 _)) | (go_at_call 48; refine Calls.quiet_of_same (r05textLeast4 _)))
  go_wp2_with fail
  refine (r05hasNum4 _).mono ?_
  rintro e w' ⟨rfl, rfl⟩
  go_wp2_with fail
  refine (r05hasName4 _).mono ?_
  rintro e w' ⟨rfl, rfl⟩
  go_wp2_with fail
  refine (r05textMost4 _).mono ?_
  rintro e w' ⟨rfl, rfl⟩
  go_wp2_with fail
  refine (r05hasNum4 _).mono ?_
  rintro e w' ⟨rfl, rfl⟩
  go_wp2
  go_ret
  refine ⟨?_, by first | exact HF.out | exact HF.out.drew | exact HF.out.drewN _⟩
  first | rfl | simp [HV.out] | (rw [HV.out]; rfl)
set_option maxHeartbeats 8000000 in
set_option maxRecDepth 100000 in
theorem rCheck5 (o : OV) (hk : o.kind = 5) (w : World) : Calls Tryd.prog 39 #[o.v] w fun e w' => e = .returned (.int .i64 (chkO o)) ∧ Fr No w w' := by
  obtain ⟨kind, name, text, num, most⟩ := o
  dsimp only at hk
  subst hk
  unfold OV.v sv
  dsimp only
  obtain ⟨R, hR⟩ : ∃ R, chkO ⟨5, name, text, num, most⟩ = R := ⟨_, rfl⟩
  rw [hR]
  unfold chkO at hR
  dsimp only at hR
  rw [if_neg (show ¬ ((5 : Int) < 1 ∨ 8 < (5 : Int)) by decide)] at hR
  rw [show hasN 5 = true by decide, show hasT 5 = true by decide, show hasK 5 = false by decide] at hR
  obtain ⟨nb, hnb⟩ : ∃ p : ByteArray, (⟨name.toArray⟩ : ByteArray) = p := ⟨_, rfl⟩
  obtain ⟨tb, htb⟩ : ∃ p : ByteArray, (⟨text.toArray⟩ : ByteArray) = p := ⟨_, rfl⟩
  have hns := sv_size hnb
  have hts := sv_size htb
  rw [hnb, htb]
  obtain ⟨wb, hwb⟩ : ∃ wb, w.alloc (.cells #[.int .i64 5, .string nb, .string tb, .int .i64 num, .int .i64 most] 44 (0, 0)) = wb := ⟨_, rfl⟩
  have HF := Lib.hid (show Fr No w wb by rw [← hwb]; exact (Fr.refl _ _).alloc _)
  have hbk : Bk wb w.heap.size 44 [.int .i64 5, .string nb, .string tb, .int .i64 num, .int .i64 most] := by rw [← hwb]; exact Bk.new w 44 [.int .i64 5, .string nb, .string tb, .int .i64 num, .int .i64 most]
  obtain ⟨y0, y1, y2, y3, y4, yf⟩ := Bk.five hbk
  have HWB := Lib.hid hwb
  clear hbk hwb
  by_cases c1 : nb.size < 1
  · have d1 : decide ((nb.size : Int) < 1) = true := decide_eq_true (by omega)
    have d1' : decide (nb.size < 1) = true := decide_eq_true (by omega)
    rw [if_pos ⟨rfl, .inl (by omega)⟩] at hR
    have HV := Lib.hid hR.symm
    clear hR hns hts
    go_enter Tryd.func39, Tryd.ntmps39
    go_upto_region 1 with (fail)
    rw [HWB.out]
    go_wp2_with fail
    refine (r05hasName5 _).mono ?_
    rintro e w' ⟨rfl, rfl⟩
    go_wp2
    go_ret
    refine ⟨?_, by first | exact HF.out | exact HF.out.drew | exact HF.out.drewN _⟩
    first | rfl | simp [HV.out] | (rw [HV.out]; rfl)
  have d1 : decide ((nb.size : Int) < 1) = false := decide_eq_false (by omega)
  have d1' : decide (nb.size < 1) = false := decide_eq_false (by omega)
  by_cases c2 : 16 < nb.size
  · have d2 : decide ((16 : Int) < (nb.size : Int)) = true := decide_eq_true (by omega)
    have d2' : decide (16 < nb.size) = true := decide_eq_true (by omega)
    rw [if_pos ⟨rfl, .inr (by omega)⟩] at hR
    have HV := Lib.hid hR.symm
    clear hR hns hts
    go_enter Tryd.func39, Tryd.ntmps39
    go_upto_region 1 with (fail)
    rw [HWB.out]
    go_wp2_with fail
    refine (r05hasName5 _).mono ?_
    rintro e w' ⟨rfl, rfl⟩
    go_wp2
    go_ret
    refine ⟨?_, by first | exact HF.out | exact HF.out.drew | exact HF.out.drewN _⟩
    first | rfl | simp [HV.out] | (rw [HV.out]; rfl)
  have d2 : decide ((16 : Int) < (nb.size : Int)) = false := decide_eq_false (by omega)
  have d2' : decide (16 < nb.size) = false := decide_eq_false (by omega)
  rw [if_neg (fun q => by rcases q.2 with q | q <;> omega)] at hR
  by_cases c3 : tb.size < 1
  · have d3 : decide ((tb.size : Int) < 1) = true := decide_eq_true (by omega)
    have d3' : decide (tb.size < 1) = true := decide_eq_true (by omega)
    rw [if_pos (.inl ⟨rfl, .inl (by omega)⟩)] at hR
    have HV := Lib.hid hR.symm
    clear hR hns hts
    go_enter Tryd.func39, Tryd.ntmps39
    go_upto_region 1 with (fail)
    rw [HWB.out]
    go_wp2_with fail
    refine (r05hasName5 _).mono ?_
    rintro e w' ⟨rfl, rfl⟩
    go_wp2
    go_quiet (first | (go_at_call 47; refine Calls.quiet_of_same (r05textMost5 _)) | (go_at_call 48; refine Calls.quiet_of_same (r05textLeast5 _)))
    go_wp2
    go_ret
    refine ⟨?_, by first | exact HF.out | exact HF.out.drew | exact HF.out.drewN _⟩
    first | rfl | simp [HV.out] | (rw [HV.out]; rfl)
  have d3 : decide ((tb.size : Int) < 1) = false := decide_eq_false (by omega)
  have d3' : decide (tb.size < 1) = false := decide_eq_false (by omega)
  by_cases c4 : 16 < tb.size
  · have d4 : decide ((16 : Int) < (tb.size : Int)) = true := decide_eq_true (by omega)
    have d4' : decide (16 < tb.size) = true := decide_eq_true (by omega)
    rw [if_pos (.inl ⟨rfl, .inr (by omega)⟩)] at hR
    have HV := Lib.hid hR.symm
    clear hR hns hts
    go_enter Tryd.func39, Tryd.ntmps39
    go_upto_region 1 with (fail)
    rw [HWB.out]
    go_wp2_with fail
    refine (r05hasName5 _).mono ?_
    rintro e w' ⟨rfl, rfl⟩
    go_wp2
    go_quiet (first | (go_at_call 47; refine Calls.quiet_of_same (r05textMost5 _)) | (go_at_call 48; refine Calls.quiet_of_same (r05textLeast5 _)))
    go_wp2
    go_ret
    refine ⟨?_, by first | exact HF.out | exact HF.out.drew | exact HF.out.drewN _⟩
    first | rfl | simp [HV.out] | (rw [HV.out]; rfl)
  have d4 : decide ((16 : Int) < (tb.size : Int)) = false := decide_eq_false (by omega)
  have d4' : decide (16 < tb.size) = false := decide_eq_false (by omega)
  rw [if_neg (fun q => by rcases q with ⟨_, q | q⟩ | ⟨q, _⟩; omega; omega; exact absurd q (by decide))] at hR
  rw [if_neg (fun q => by cases q.1)] at hR
  rw [if_neg (fun q => absurd q.1 (by decide))] at hR
  by_cases c11 : num ≠ 0
  · have x5 : (num != 0) = true := bne_iff_ne.2 c11
    rw [if_pos (.inr (.inr (.inl ⟨rfl, c11⟩)))] at hR
    have HV := Lib.hid hR.symm
    clear hR hns hts
    go_enter Tryd.func39, Tryd.ntmps39
    go_upto_region 1 with (fail)
    rw [HWB.out]
    go_wp2_with fail
    refine (r05hasName5 _).mono ?_
    rintro e w' ⟨rfl, rfl⟩
    go_wp2
    go_quiet (first | (go_at_call 47; refine Calls.quiet_of_same (r05textMost5 _)) | (go_at_call 48; refine Calls.quiet_of_same (r05textLeast5 _)))
    go_wp2_with fail
    refine (r05hasNum5 _).mono ?_
    rintro e w' ⟨rfl, rfl⟩
    go_wp2_with fail
    refine (r05hasName5 _).mono ?_
    rintro e w' ⟨rfl, rfl⟩
    go_wp2_with fail
    refine (r05textMost5 _).mono ?_
    rintro e w' ⟨rfl, rfl⟩
    go_wp2_with fail
    refine (r05hasNum5 _).mono ?_
    rintro e w' ⟨rfl, rfl⟩
    go_wp2
    go_ret
    refine ⟨?_, by first | exact HF.out | exact HF.out.drew | exact HF.out.drewN _⟩
    first | rfl | simp [HV.out] | (rw [HV.out]; rfl)
  have c11 : num = 0 := Decidable.not_not.1 c11
  subst c11
  by_cases c12 : most ≠ 0
  · have x6 : (most != 0) = true := bne_iff_ne.2 c12
    rw [if_pos (.inr (.inr (.inr ⟨by decide, c12⟩)))] at hR
    have HV := Lib.hid hR.symm
    clear hR hns hts
    go_enter Tryd.func39, Tryd.ntmps39
    go_upto_region 1 with (fail)
    rw [HWB.out]
    go_wp2_with fail
    refine (r05hasName5 _).mono ?_
    rintro e w' ⟨rfl, rfl⟩
    go_wp2
    go_quiet (first | (go_at_call 47; refine Calls.quiet_of_same (r05textMost5 _)) | (go_at_call 48; refine Calls.quiet_of_same (r05textLeast5 _)))
    go_wp2_with fail
    refine (r05hasNum5 _).mono ?_
    rintro e w' ⟨rfl, rfl⟩
    go_wp2_with fail
    refine (r05hasName5 _).mono ?_
    rintro e w' ⟨rfl, rfl⟩
    go_wp2_with fail
    refine (r05textMost5 _).mono ?_
    rintro e w' ⟨rfl, rfl⟩
    go_wp2_with fail
    refine (r05hasNum5 _).mono ?_
    rintro e w' ⟨rfl, rfl⟩
    go_wp2
    go_ret
    refine ⟨?_, by first | exact HF.out | exact HF.out.drew | exact HF.out.drewN _⟩
    first | rfl | simp [HV.out] | (rw [HV.out]; rfl)
  have c12 : most = 0 := Decidable.not_not.1 c12
  subst c12
  rw [if_neg (by simp)] at hR
  have HV := Lib.hid hR.symm
  clear hR hns hts
  go_enter Tryd.func39, Tryd.ntmps39
  go_upto_region 1 with (fail)
  rw [HWB.out]
  go_wp2_with fail
  refine (r05hasName5 _).mono ?_
  rintro e w' ⟨rfl, rfl⟩
  go_wp2
  go_quiet (first | (go_at_call 47; refine Calls.quiet_of_same (r05textMost5 _)) | (go_at_call 48; refine Calls.quiet_of_same (r05textLeast5 _)))
  go_wp2_with fail
  refine (r05hasNum5 _).mono ?_
  rintro e w' ⟨rfl, rfl⟩
  go_wp2_with fail
  refine (r05hasName5 _).mono ?_
  rintro e w' ⟨rfl, rfl⟩
  go_wp2_with fail
  refine (r05textMost5 _).mono ?_
  rintro e w' ⟨rfl, rfl⟩
  go_wp2_with fail
  refine (r05hasNum5 _).mono ?_
  rintro e w' ⟨rfl, rfl⟩
  go_wp2
  go_ret
  refine ⟨?_, by first | exact HF.out | exact HF.out.drew | exact HF.out.drewN _⟩
  first | rfl | simp [HV.out] | (rw [HV.out]; rfl)
set_option maxHeartbeats 8000000 in
set_option maxRecDepth 100000 in
theorem rCheck6 (o : OV) (hk : o.kind = 6) (w : World) : Calls Tryd.prog 39 #[o.v] w fun e w' => e = .returned (.int .i64 (chkO o)) ∧ Fr No w w' := by
  obtain ⟨kind, name, text, num, most⟩ := o
  dsimp only at hk
  subst hk
  unfold OV.v sv
  dsimp only
  obtain ⟨R, hR⟩ : ∃ R, chkO ⟨6, name, text, num, most⟩ = R := ⟨_, rfl⟩
  rw [hR]
  unfold chkO at hR
  dsimp only at hR
  rw [if_neg (show ¬ ((6 : Int) < 1 ∨ 8 < (6 : Int)) by decide)] at hR
  rw [show hasN 6 = true by decide, show hasT 6 = false by decide, show hasK 6 = true by decide] at hR
  obtain ⟨nb, hnb⟩ : ∃ p : ByteArray, (⟨name.toArray⟩ : ByteArray) = p := ⟨_, rfl⟩
  obtain ⟨tb, htb⟩ : ∃ p : ByteArray, (⟨text.toArray⟩ : ByteArray) = p := ⟨_, rfl⟩
  have hns := sv_size hnb
  have hts := sv_size htb
  rw [hnb, htb]
  obtain ⟨wb, hwb⟩ : ∃ wb, w.alloc (.cells #[.int .i64 6, .string nb, .string tb, .int .i64 num, .int .i64 most] 44 (0, 0)) = wb := ⟨_, rfl⟩
  have HF := Lib.hid (show Fr No w wb by rw [← hwb]; exact (Fr.refl _ _).alloc _)
  have hbk : Bk wb w.heap.size 44 [.int .i64 6, .string nb, .string tb, .int .i64 num, .int .i64 most] := by rw [← hwb]; exact Bk.new w 44 [.int .i64 6, .string nb, .string tb, .int .i64 num, .int .i64 most]
  obtain ⟨y0, y1, y2, y3, y4, yf⟩ := Bk.five hbk
  have HWB := Lib.hid hwb
  clear hbk hwb
  by_cases c1 : nb.size < 1
  · have d1 : decide ((nb.size : Int) < 1) = true := decide_eq_true (by omega)
    have d1' : decide (nb.size < 1) = true := decide_eq_true (by omega)
    rw [if_pos ⟨rfl, .inl (by omega)⟩] at hR
    have HV := Lib.hid hR.symm
    clear hR hns hts
    go_enter Tryd.func39, Tryd.ntmps39
    go_upto_region 1 with (fail)
    rw [HWB.out]
    go_wp2_with fail
    refine (r05hasName6 _).mono ?_
    rintro e w' ⟨rfl, rfl⟩
    go_wp2
    go_ret
    refine ⟨?_, by first | exact HF.out | exact HF.out.drew | exact HF.out.drewN _⟩
    first | rfl | simp [HV.out] | (rw [HV.out]; rfl)
  have d1 : decide ((nb.size : Int) < 1) = false := decide_eq_false (by omega)
  have d1' : decide (nb.size < 1) = false := decide_eq_false (by omega)
  by_cases c2 : 16 < nb.size
  · have d2 : decide ((16 : Int) < (nb.size : Int)) = true := decide_eq_true (by omega)
    have d2' : decide (16 < nb.size) = true := decide_eq_true (by omega)
    rw [if_pos ⟨rfl, .inr (by omega)⟩] at hR
    have HV := Lib.hid hR.symm
    clear hR hns hts
    go_enter Tryd.func39, Tryd.ntmps39
    go_upto_region 1 with (fail)
    rw [HWB.out]
    go_wp2_with fail
    refine (r05hasName6 _).mono ?_
    rintro e w' ⟨rfl, rfl⟩
    go_wp2
    go_ret
    refine ⟨?_, by first | exact HF.out | exact HF.out.drew | exact HF.out.drewN _⟩
    first | rfl | simp [HV.out] | (rw [HV.out]; rfl)
  have d2 : decide ((16 : Int) < (nb.size : Int)) = false := decide_eq_false (by omega)
  have d2' : decide (16 < nb.size) = false := decide_eq_false (by omega)
  rw [if_neg (fun q => by rcases q.2 with q | q <;> omega)] at hR
  rw [if_neg (fun q => by rcases q with ⟨q, _⟩ | ⟨q, _⟩ <;> exact absurd q (by decide))] at hR
  by_cases c5 : num < 0
  · have d6 : decide (num < 0) = true := decide_eq_true c5
    rw [if_pos ⟨rfl, .inl c5⟩] at hR
    have HV := Lib.hid hR.symm
    clear hR hns hts
    go_enter Tryd.func39, Tryd.ntmps39
    go_upto_region 1 with (fail)
    rw [HWB.out]
    go_wp2_with fail
    refine (r05hasName6 _).mono ?_
    rintro e w' ⟨rfl, rfl⟩
    go_wp2
    go_quiet (first | (go_at_call 47; refine Calls.quiet_of_same (r05textMost6 _)) | (go_at_call 48; refine Calls.quiet_of_same (r05textLeast6 _)))
    go_wp2_with fail
    refine (r05hasNum6 _).mono ?_
    rintro e w' ⟨rfl, rfl⟩
    go_wp2
    go_ret
    refine ⟨?_, by first | exact HF.out | exact HF.out.drew | exact HF.out.drewN _⟩
    first | rfl | simp [HV.out] | (rw [HV.out]; rfl)
  have d6 : decide (num < 0) = false := decide_eq_false c5
  by_cases c6 : 1099511627776 < num
  · have d7 : decide (1099511627776 < num) = true := decide_eq_true c6
    rw [if_pos ⟨rfl, .inr c6⟩] at hR
    have HV := Lib.hid hR.symm
    clear hR hns hts
    go_enter Tryd.func39, Tryd.ntmps39
    go_upto_region 1 with (fail)
    rw [HWB.out]
    go_wp2_with fail
    refine (r05hasName6 _).mono ?_
    rintro e w' ⟨rfl, rfl⟩
    go_wp2
    go_quiet (first | (go_at_call 47; refine Calls.quiet_of_same (r05textMost6 _)) | (go_at_call 48; refine Calls.quiet_of_same (r05textLeast6 _)))
    go_wp2_with fail
    refine (r05hasNum6 _).mono ?_
    rintro e w' ⟨rfl, rfl⟩
    go_wp2
    go_ret
    refine ⟨?_, by first | exact HF.out | exact HF.out.drew | exact HF.out.drewN _⟩
    first | rfl | simp [HV.out] | (rw [HV.out]; rfl)
  have d7 : decide (1099511627776 < num) = false := decide_eq_false c6
  rw [if_neg (fun q => by rcases q.2 with q | q; exact c5 q; exact c6 q)] at hR
  by_cases c7 : most < 1
  · have d8 : decide (most < 1) = true := decide_eq_true c7
    rw [if_pos ⟨rfl, .inl c7⟩] at hR
    have HV := Lib.hid hR.symm
    clear hR hns hts
    go_enter Tryd.func39, Tryd.ntmps39
    go_upto_region 1 with (fail)
    rw [HWB.out]
    go_wp2_with fail
    refine (r05hasName6 _).mono ?_
    rintro e w' ⟨rfl, rfl⟩
    go_wp2
    go_quiet (first | (go_at_call 47; refine Calls.quiet_of_same (r05textMost6 _)) | (go_at_call 48; refine Calls.quiet_of_same (r05textLeast6 _)))
    go_wp2_with fail
    refine (r05hasNum6 _).mono ?_
    rintro e w' ⟨rfl, rfl⟩
    go_wp2
    go_ret
    refine ⟨?_, by first | exact HF.out | exact HF.out.drew | exact HF.out.drewN _⟩
    first | rfl | simp [HV.out] | (rw [HV.out]; rfl)
  have d8 : decide (most < 1) = false := decide_eq_false c7
  by_cases c8 : 8 < most
  · have d9 : decide (8 < most) = true := decide_eq_true c8
    rw [if_pos ⟨rfl, .inr c8⟩] at hR
    have HV := Lib.hid hR.symm
    clear hR hns hts
    go_enter Tryd.func39, Tryd.ntmps39
    go_upto_region 1 with (fail)
    rw [HWB.out]
    go_wp2_with fail
    refine (r05hasName6 _).mono ?_
    rintro e w' ⟨rfl, rfl⟩
    go_wp2
    go_quiet (first | (go_at_call 47; refine Calls.quiet_of_same (r05textMost6 _)) | (go_at_call 48; refine Calls.quiet_of_same (r05textLeast6 _)))
    go_wp2_with fail
    refine (r05hasNum6 _).mono ?_
    rintro e w' ⟨rfl, rfl⟩
    go_wp2
    go_ret
    refine ⟨?_, by first | exact HF.out | exact HF.out.drew | exact HF.out.drewN _⟩
    first | rfl | simp [HV.out] | (rw [HV.out]; rfl)
  have d9 : decide (8 < most) = false := decide_eq_false c8
  rw [if_neg (fun q => by rcases q.2 with q | q; exact c7 q; exact c8 q)] at hR
  by_cases c10 : text ≠ []
  · obtain ⟨x1, x2, x3, x4⟩ := empty_no htb c10
    rw [if_pos (.inr (.inl ⟨rfl, c10⟩))] at hR
    have HV := Lib.hid hR.symm
    clear hR hns hts
    go_enter Tryd.func39, Tryd.ntmps39
    go_upto_region 1 with (fail)
    rw [HWB.out]
    go_wp2_with fail
    refine (r05hasName6 _).mono ?_
    rintro e w' ⟨rfl, rfl⟩
    go_wp2
    go_quiet (first | (go_at_call 47; refine Calls.quiet_of_same (r05textMost6 _)) | (go_at_call 48; refine Calls.quiet_of_same (r05textLeast6 _)))
    go_wp2_with fail
    refine (r05hasNum6 _).mono ?_
    rintro e w' ⟨rfl, rfl⟩
    go_wp2_with fail
    refine (r05hasName6 _).mono ?_
    rintro e w' ⟨rfl, rfl⟩
    go_wp2_with fail
    refine (r05textMost6 _).mono ?_
    rintro e w' ⟨rfl, rfl⟩
    go_wp2
    go_ret
    refine ⟨?_, by first | exact HF.out | exact HF.out.drew | exact HF.out.drewN _⟩
    first | rfl | simp [HV.out] | (rw [HV.out]; rfl)
  have c10 : text = [] := Decidable.not_not.1 c10
  subst c10
  obtain rfl : tb = ⟨#[]⟩ := htb.symm
  rw [if_neg (by simp)] at hR
  have HV := Lib.hid hR.symm
  clear hR hns hts
  go_enter Tryd.func39, Tryd.ntmps39
  go_upto_region 1 with (fail)
  rw [HWB.out]
  go_wp2_with fail
  refine (r05hasName6 _).mono ?_
  rintro e w' ⟨rfl, rfl⟩
  go_wp2
  go_quiet (first | (go_at_call 47; refine Calls.quiet_of_same (r05textMost6 _)) | (go_at_call 48; refine Calls.quiet_of_same (r05textLeast6 _)))
  go_wp2_with fail
  refine (r05hasNum6 _).mono ?_
  rintro e w' ⟨rfl, rfl⟩
  go_wp2_with fail
  refine (r05hasName6 _).mono ?_
  rintro e w' ⟨rfl, rfl⟩
  go_wp2_with fail
  refine (r05textMost6 _).mono ?_
  rintro e w' ⟨rfl, rfl⟩
  go_wp2_with fail
  refine (r05hasNum6 _).mono ?_
  rintro e w' ⟨rfl, rfl⟩
  go_wp2
  go_ret
  refine ⟨?_, by first | exact HF.out | exact HF.out.drew | exact HF.out.drewN _⟩
  first | rfl | simp [HV.out] | (rw [HV.out]; rfl)
set_option maxHeartbeats 8000000 in
set_option maxRecDepth 100000 in
theorem rCheck7 (o : OV) (hk : o.kind = 7) (w : World) : Calls Tryd.prog 39 #[o.v] w fun e w' => e = .returned (.int .i64 (chkO o)) ∧ Fr No w w' := by
  obtain ⟨kind, name, text, num, most⟩ := o
  dsimp only at hk
  subst hk
  unfold OV.v sv
  dsimp only
  obtain ⟨R, hR⟩ : ∃ R, chkO ⟨7, name, text, num, most⟩ = R := ⟨_, rfl⟩
  rw [hR]
  unfold chkO at hR
  dsimp only at hR
  rw [if_neg (show ¬ ((7 : Int) < 1 ∨ 8 < (7 : Int)) by decide)] at hR
  rw [show hasN 7 = true by decide, show hasT 7 = false by decide, show hasK 7 = false by decide] at hR
  obtain ⟨nb, hnb⟩ : ∃ p : ByteArray, (⟨name.toArray⟩ : ByteArray) = p := ⟨_, rfl⟩
  obtain ⟨tb, htb⟩ : ∃ p : ByteArray, (⟨text.toArray⟩ : ByteArray) = p := ⟨_, rfl⟩
  have hns := sv_size hnb
  have hts := sv_size htb
  rw [hnb, htb]
  obtain ⟨wb, hwb⟩ : ∃ wb, w.alloc (.cells #[.int .i64 7, .string nb, .string tb, .int .i64 num, .int .i64 most] 44 (0, 0)) = wb := ⟨_, rfl⟩
  have HF := Lib.hid (show Fr No w wb by rw [← hwb]; exact (Fr.refl _ _).alloc _)
  have hbk : Bk wb w.heap.size 44 [.int .i64 7, .string nb, .string tb, .int .i64 num, .int .i64 most] := by rw [← hwb]; exact Bk.new w 44 [.int .i64 7, .string nb, .string tb, .int .i64 num, .int .i64 most]
  obtain ⟨y0, y1, y2, y3, y4, yf⟩ := Bk.five hbk
  have HWB := Lib.hid hwb
  clear hbk hwb
  by_cases c1 : nb.size < 1
  · have d1 : decide ((nb.size : Int) < 1) = true := decide_eq_true (by omega)
    have d1' : decide (nb.size < 1) = true := decide_eq_true (by omega)
    rw [if_pos ⟨rfl, .inl (by omega)⟩] at hR
    have HV := Lib.hid hR.symm
    clear hR hns hts
    go_enter Tryd.func39, Tryd.ntmps39
    go_upto_region 1 with (fail)
    rw [HWB.out]
    go_wp2_with fail
    refine (r05hasName7 _).mono ?_
    rintro e w' ⟨rfl, rfl⟩
    go_wp2
    go_ret
    refine ⟨?_, by first | exact HF.out | exact HF.out.drew | exact HF.out.drewN _⟩
    first | rfl | simp [HV.out] | (rw [HV.out]; rfl)
  have d1 : decide ((nb.size : Int) < 1) = false := decide_eq_false (by omega)
  have d1' : decide (nb.size < 1) = false := decide_eq_false (by omega)
  by_cases c2 : 16 < nb.size
  · have d2 : decide ((16 : Int) < (nb.size : Int)) = true := decide_eq_true (by omega)
    have d2' : decide (16 < nb.size) = true := decide_eq_true (by omega)
    rw [if_pos ⟨rfl, .inr (by omega)⟩] at hR
    have HV := Lib.hid hR.symm
    clear hR hns hts
    go_enter Tryd.func39, Tryd.ntmps39
    go_upto_region 1 with (fail)
    rw [HWB.out]
    go_wp2_with fail
    refine (r05hasName7 _).mono ?_
    rintro e w' ⟨rfl, rfl⟩
    go_wp2
    go_ret
    refine ⟨?_, by first | exact HF.out | exact HF.out.drew | exact HF.out.drewN _⟩
    first | rfl | simp [HV.out] | (rw [HV.out]; rfl)
  have d2 : decide ((16 : Int) < (nb.size : Int)) = false := decide_eq_false (by omega)
  have d2' : decide (16 < nb.size) = false := decide_eq_false (by omega)
  rw [if_neg (fun q => by rcases q.2 with q | q <;> omega)] at hR
  rw [if_neg (fun q => by rcases q with ⟨q, _⟩ | ⟨q, _⟩ <;> exact absurd q (by decide))] at hR
  rw [if_neg (fun q => by cases q.1)] at hR
  rw [if_neg (fun q => absurd q.1 (by decide))] at hR
  by_cases c10 : text ≠ []
  · obtain ⟨x1, x2, x3, x4⟩ := empty_no htb c10
    rw [if_pos (.inr (.inl ⟨rfl, c10⟩))] at hR
    have HV := Lib.hid hR.symm
    clear hR hns hts
    go_enter Tryd.func39, Tryd.ntmps39
    go_upto_region 1 with (fail)
    rw [HWB.out]
    go_wp2_with fail
    refine (r05hasName7 _).mono ?_
    rintro e w' ⟨rfl, rfl⟩
    go_wp2
    go_quiet (first | (go_at_call 47; refine Calls.quiet_of_same (r05textMost7 _)) | (go_at_call 48; refine Calls.quiet_of_same (r05textLeast7 _)))
    go_wp2_with fail
    refine (r05hasNum7 _).mono ?_
    rintro e w' ⟨rfl, rfl⟩
    go_wp2_with fail
    refine (r05hasName7 _).mono ?_
    rintro e w' ⟨rfl, rfl⟩
    go_wp2_with fail
    refine (r05textMost7 _).mono ?_
    rintro e w' ⟨rfl, rfl⟩
    go_wp2
    go_ret
    refine ⟨?_, by first | exact HF.out | exact HF.out.drew | exact HF.out.drewN _⟩
    first | rfl | simp [HV.out] | (rw [HV.out]; rfl)
  have c10 : text = [] := Decidable.not_not.1 c10
  subst c10
  obtain rfl : tb = ⟨#[]⟩ := htb.symm
  by_cases c11 : num ≠ 0
  · have x5 : (num != 0) = true := bne_iff_ne.2 c11
    rw [if_pos (.inr (.inr (.inl ⟨rfl, c11⟩)))] at hR
    have HV := Lib.hid hR.symm
    clear hR hns hts
    go_enter Tryd.func39, Tryd.ntmps39
    go_upto_region 1 with (fail)
    rw [HWB.out]
    go_wp2_with fail
    refine (r05hasName7 _).mono ?_
    rintro e w' ⟨rfl, rfl⟩
    go_wp2
    go_quiet (first | (go_at_call 47; refine Calls.quiet_of_same (r05textMost7 _)) | (go_at_call 48; refine Calls.quiet_of_same (r05textLeast7 _)))
    go_wp2_with fail
    refine (r05hasNum7 _).mono ?_
    rintro e w' ⟨rfl, rfl⟩
    go_wp2_with fail
    refine (r05hasName7 _).mono ?_
    rintro e w' ⟨rfl, rfl⟩
    go_wp2_with fail
    refine (r05textMost7 _).mono ?_
    rintro e w' ⟨rfl, rfl⟩
    go_wp2_with fail
    refine (r05hasNum7 _).mono ?_
    rintro e w' ⟨rfl, rfl⟩
    go_wp2
    go_ret
    refine ⟨?_, by first | exact HF.out | exact HF.out.drew | exact HF.out.drewN _⟩
    first | rfl | simp [HV.out] | (rw [HV.out]; rfl)
  have c11 : num = 0 := Decidable.not_not.1 c11
  subst c11
  by_cases c12 : most ≠ 0
  · have x6 : (most != 0) = true := bne_iff_ne.2 c12
    rw [if_pos (.inr (.inr (.inr ⟨by decide, c12⟩)))] at hR
    have HV := Lib.hid hR.symm
    clear hR hns hts
    go_enter Tryd.func39, Tryd.ntmps39
    go_upto_region 1 with (fail)
    rw [HWB.out]
    go_wp2_with fail
    refine (r05hasName7 _).mono ?_
    rintro e w' ⟨rfl, rfl⟩
    go_wp2
    go_quiet (first | (go_at_call 47; refine Calls.quiet_of_same (r05textMost7 _)) | (go_at_call 48; refine Calls.quiet_of_same (r05textLeast7 _)))
    go_wp2_with fail
    refine (r05hasNum7 _).mono ?_
    rintro e w' ⟨rfl, rfl⟩
    go_wp2_with fail
    refine (r05hasName7 _).mono ?_
    rintro e w' ⟨rfl, rfl⟩
    go_wp2_with fail
    refine (r05textMost7 _).mono ?_
    rintro e w' ⟨rfl, rfl⟩
    go_wp2_with fail
    refine (r05hasNum7 _).mono ?_
    rintro e w' ⟨rfl, rfl⟩
    go_wp2
    go_ret
    refine ⟨?_, by first | exact HF.out | exact HF.out.drew | exact HF.out.drewN _⟩
    first | rfl | simp [HV.out] | (rw [HV.out]; rfl)
  have c12 : most = 0 := Decidable.not_not.1 c12
  subst c12
  rw [if_neg (by simp)] at hR
  have HV := Lib.hid hR.symm
  clear hR hns hts
  go_enter Tryd.func39, Tryd.ntmps39
  go_upto_region 1 with (fail)
  rw [HWB.out]
  go_wp2_with fail
  refine (r05hasName7 _).mono ?_
  rintro e w' ⟨rfl, rfl⟩
  go_wp2
  go_quiet (first | (go_at_call 47; refine Calls.quiet_of_same (r05textMost7 _)) | (go_at_call 48; refine Calls.quiet_of_same (r05textLeast7 _)))
  go_wp2_with fail
  refine (r05hasNum7 _).mono ?_
  rintro e w' ⟨rfl, rfl⟩
  go_wp2_with fail
  refine (r05hasName7 _).mono ?_
  rintro e w' ⟨rfl, rfl⟩
  go_wp2_with fail
  refine (r05textMost7 _).mono ?_
  rintro e w' ⟨rfl, rfl⟩
  go_wp2_with fail
  refine (r05hasNum7 _).mono ?_
  rintro e w' ⟨rfl, rfl⟩
  go_wp2
  go_ret
  refine ⟨?_, by first | exact HF.out | exact HF.out.drew | exact HF.out.drewN _⟩
  first | rfl | simp [HV.out] | (rw [HV.out]; rfl)
set_option maxHeartbeats 8000000 in
set_option maxRecDepth 100000 in
theorem rCheck8 (o : OV) (hk : o.kind = 8) (w : World) : Calls Tryd.prog 39 #[o.v] w fun e w' => e = .returned (.int .i64 (chkO o)) ∧ Fr No w w' := by
  obtain ⟨kind, name, text, num, most⟩ := o
  dsimp only at hk
  subst hk
  unfold OV.v sv
  dsimp only
  obtain ⟨R, hR⟩ : ∃ R, chkO ⟨8, name, text, num, most⟩ = R := ⟨_, rfl⟩
  rw [hR]
  unfold chkO at hR
  dsimp only at hR
  rw [if_neg (show ¬ ((8 : Int) < 1 ∨ 8 < (8 : Int)) by decide)] at hR
  rw [show hasN 8 = false by decide, show hasT 8 = false by decide, show hasK 8 = false by decide] at hR
  obtain ⟨nb, hnb⟩ : ∃ p : ByteArray, (⟨name.toArray⟩ : ByteArray) = p := ⟨_, rfl⟩
  obtain ⟨tb, htb⟩ : ∃ p : ByteArray, (⟨text.toArray⟩ : ByteArray) = p := ⟨_, rfl⟩
  have hns := sv_size hnb
  have hts := sv_size htb
  rw [hnb, htb]
  obtain ⟨wb, hwb⟩ : ∃ wb, w.alloc (.cells #[.int .i64 8, .string nb, .string tb, .int .i64 num, .int .i64 most] 44 (0, 0)) = wb := ⟨_, rfl⟩
  have HF := Lib.hid (show Fr No w wb by rw [← hwb]; exact (Fr.refl _ _).alloc _)
  have hbk : Bk wb w.heap.size 44 [.int .i64 8, .string nb, .string tb, .int .i64 num, .int .i64 most] := by rw [← hwb]; exact Bk.new w 44 [.int .i64 8, .string nb, .string tb, .int .i64 num, .int .i64 most]
  obtain ⟨y0, y1, y2, y3, y4, yf⟩ := Bk.five hbk
  have HWB := Lib.hid hwb
  clear hbk hwb
  rw [if_neg (fun q => by cases q.1)] at hR
  rw [if_neg (fun q => by rcases q with ⟨q, _⟩ | ⟨q, _⟩ <;> exact absurd q (by decide))] at hR
  rw [if_neg (fun q => by cases q.1)] at hR
  rw [if_neg (fun q => absurd q.1 (by decide))] at hR
  by_cases c9 : name ≠ []
  · obtain ⟨x1, x2, x3, x4⟩ := empty_no hnb c9
    rw [if_pos (.inl ⟨rfl, c9⟩)] at hR
    have HV := Lib.hid hR.symm
    clear hR hns hts
    go_enter Tryd.func39, Tryd.ntmps39
    go_upto_region 1 with (fail)
    rw [HWB.out]
    go_wp2_with fail
    refine (r05hasName8 _).mono ?_
    rintro e w' ⟨rfl, rfl⟩
    go_wp2
    go_quiet (first | (go_at_call 47; refine Calls.quiet_of_same (r05textMost8 _)) | (go_at_call 48; refine Calls.quiet_of_same (r05textLeast8 _)))
    go_wp2_with fail
    refine (r05hasNum8 _).mono ?_
    rintro e w' ⟨rfl, rfl⟩
    go_wp2_with fail
    refine (r05hasName8 _).mono ?_
    rintro e w' ⟨rfl, rfl⟩
    go_wp2
    go_ret
    refine ⟨?_, by first | exact HF.out | exact HF.out.drew | exact HF.out.drewN _⟩
    first | rfl | simp [HV.out] | (rw [HV.out]; rfl)
  have c9 : name = [] := Decidable.not_not.1 c9
  subst c9
  obtain rfl : nb = ⟨#[]⟩ := hnb.symm
  by_cases c10 : text ≠ []
  · obtain ⟨x1, x2, x3, x4⟩ := empty_no htb c10
    rw [if_pos (.inr (.inl ⟨rfl, c10⟩))] at hR
    have HV := Lib.hid hR.symm
    clear hR hns hts
    go_enter Tryd.func39, Tryd.ntmps39
    go_upto_region 1 with (fail)
    rw [HWB.out]
    go_wp2_with fail
    refine (r05hasName8 _).mono ?_
    rintro e w' ⟨rfl, rfl⟩
    go_wp2
    go_quiet (first | (go_at_call 47; refine Calls.quiet_of_same (r05textMost8 _)) | (go_at_call 48; refine Calls.quiet_of_same (r05textLeast8 _)))
    go_wp2_with fail
    refine (r05hasNum8 _).mono ?_
    rintro e w' ⟨rfl, rfl⟩
    go_wp2_with fail
    refine (r05hasName8 _).mono ?_
    rintro e w' ⟨rfl, rfl⟩
    go_wp2_with fail
    refine (r05textMost8 _).mono ?_
    rintro e w' ⟨rfl, rfl⟩
    go_wp2
    go_ret
    refine ⟨?_, by first | exact HF.out | exact HF.out.drew | exact HF.out.drewN _⟩
    first | rfl | simp [HV.out] | (rw [HV.out]; rfl)
  have c10 : text = [] := Decidable.not_not.1 c10
  subst c10
  obtain rfl : tb = ⟨#[]⟩ := htb.symm
  by_cases c11 : num ≠ 0
  · have x5 : (num != 0) = true := bne_iff_ne.2 c11
    rw [if_pos (.inr (.inr (.inl ⟨rfl, c11⟩)))] at hR
    have HV := Lib.hid hR.symm
    clear hR hns hts
    go_enter Tryd.func39, Tryd.ntmps39
    go_upto_region 1 with (fail)
    rw [HWB.out]
    go_wp2_with fail
    refine (r05hasName8 _).mono ?_
    rintro e w' ⟨rfl, rfl⟩
    go_wp2
    go_quiet (first | (go_at_call 47; refine Calls.quiet_of_same (r05textMost8 _)) | (go_at_call 48; refine Calls.quiet_of_same (r05textLeast8 _)))
    go_wp2_with fail
    refine (r05hasNum8 _).mono ?_
    rintro e w' ⟨rfl, rfl⟩
    go_wp2_with fail
    refine (r05hasName8 _).mono ?_
    rintro e w' ⟨rfl, rfl⟩
    go_wp2_with fail
    refine (r05textMost8 _).mono ?_
    rintro e w' ⟨rfl, rfl⟩
    go_wp2_with fail
    refine (r05hasNum8 _).mono ?_
    rintro e w' ⟨rfl, rfl⟩
    go_wp2
    go_ret
    refine ⟨?_, by first | exact HF.out | exact HF.out.drew | exact HF.out.drewN _⟩
    first | rfl | simp [HV.out] | (rw [HV.out]; rfl)
  have c11 : num = 0 := Decidable.not_not.1 c11
  subst c11
  by_cases c12 : most ≠ 0
  · have x6 : (most != 0) = true := bne_iff_ne.2 c12
    rw [if_pos (.inr (.inr (.inr ⟨by decide, c12⟩)))] at hR
    have HV := Lib.hid hR.symm
    clear hR hns hts
    go_enter Tryd.func39, Tryd.ntmps39
    go_upto_region 1 with (fail)
    rw [HWB.out]
    go_wp2_with fail
    refine (r05hasName8 _).mono ?_
    rintro e w' ⟨rfl, rfl⟩
    go_wp2
    go_quiet (first | (go_at_call 47; refine Calls.quiet_of_same (r05textMost8 _)) | (go_at_call 48; refine Calls.quiet_of_same (r05textLeast8 _)))
    go_wp2_with fail
    refine (r05hasNum8 _).mono ?_
    rintro e w' ⟨rfl, rfl⟩
    go_wp2_with fail
    refine (r05hasName8 _).mono ?_
    rintro e w' ⟨rfl, rfl⟩
    go_wp2_with fail
    refine (r05textMost8 _).mono ?_
    rintro e w' ⟨rfl, rfl⟩
    go_wp2_with fail
    refine (r05hasNum8 _).mono ?_
    rintro e w' ⟨rfl, rfl⟩
    go_wp2
    go_ret
    refine ⟨?_, by first | exact HF.out | exact HF.out.drew | exact HF.out.drewN _⟩
    first | rfl | simp [HV.out] | (rw [HV.out]; rfl)
  have c12 : most = 0 := Decidable.not_not.1 c12
  subst c12
  rw [if_neg (by simp)] at hR
  have HV := Lib.hid hR.symm
  clear hR hns hts
  go_enter Tryd.func39, Tryd.ntmps39
  go_upto_region 1 with (fail)
  rw [HWB.out]
  go_wp2_with fail
  refine (r05hasName8 _).mono ?_
  rintro e w' ⟨rfl, rfl⟩
  go_wp2
  go_quiet (first | (go_at_call 47; refine Calls.quiet_of_same (r05textMost8 _)) | (go_at_call 48; refine Calls.quiet_of_same (r05textLeast8 _)))
  go_wp2_with fail
  refine (r05hasNum8 _).mono ?_
  rintro e w' ⟨rfl, rfl⟩
  go_wp2_with fail
  refine (r05hasName8 _).mono ?_
  rintro e w' ⟨rfl, rfl⟩
  go_wp2_with fail
  refine (r05textMost8 _).mono ?_
  rintro e w' ⟨rfl, rfl⟩
  go_wp2_with fail
  refine (r05hasNum8 _).mono ?_
  rintro e w' ⟨rfl, rfl⟩
  go_wp2
  go_ret
  refine ⟨?_, by first | exact HF.out | exact HF.out.drew | exact HF.out.drewN _⟩
  first | rfl | simp [HV.out] | (rw [HV.out]; rfl)
end Go.Proofs.YtdhlbdllidfenaaDoor.Wd
