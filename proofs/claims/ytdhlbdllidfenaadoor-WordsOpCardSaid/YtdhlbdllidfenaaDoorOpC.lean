/- Words: is an op one that may be: the program's Check, walked (printed by a program of ours). Conditions: none. -/
import Derived.Test.YtdhlbdllidfenaaDoorOpB
namespace Go.Proofs.YtdhlbdllidfenaaDoor.Wd
open Go.RowKit Go.Proofs.YtdhlbdllidfenaaDoor.Mem
set_option linter.unusedVariables false
set_option linter.unusedSimpArgs false
theorem empty_no {l : List UInt8} {p : ByteArray} (hp : (⟨l.toArray⟩ : ByteArray) = p) (h : l ≠ []) : (p.toList == ([] : List UInt8)) = false ∧ (p.toList == (⟨#[]⟩ : ByteArray).toList) = false ∧ p.toList.isEmpty = false ∧ decide (p.toList = []) = false := by
  have e : p.toList = l := by rw [← hp, ByteArray.toList_eq]
  rw [e]
  have e2 : (⟨#[]⟩ : ByteArray).toList = [] := by rw [ByteArray.toList_eq]
  refine ⟨beq_eq_false_iff_ne.2 h, by rw [e2]; exact beq_eq_false_iff_ne.2 h, ?_, decide_eq_false h⟩
  cases l with
  | nil => exact absurd rfl h
  | cons => rfl
theorem isName_of {b : Bool} (s : ByteArray) (W : World) (h : (decide (1 ≤ s.size) && decide (s.size ≤ 16)) = b) : Calls Tryd.prog 51 #[.string s] W fun e w' => e = .returned (.bool b) ∧ w' = W := by
  have h1 := wIsName s W
  rw [h] at h1
  exact h1
set_option maxHeartbeats 8000000 in
set_option maxRecDepth 100000 in
theorem wCheck1 (o : OV) (hk : o.kind = 1) (w : World) : Calls Tryd.prog 42 #[o.v] w fun e w' => e = .returned (.int .i64 (chkO o)) ∧ Fr No w w' := by
  obtain ⟨kind, name, text, num, most⟩ := o
  dsimp only at hk
  subst hk
  unfold OV.v sv
  dsimp only
  obtain ⟨R, hR⟩ : ∃ R, chkO ⟨1, name, text, num, most⟩ = R := ⟨_, rfl⟩
  rw [hR]
  unfold chkO at hR
  dsimp only at hR
  rw [if_neg (show ¬ ((1 : Int) < 1 ∨ 8 < (1 : Int)) by decide)] at hR
  rw [show hasN 1 = true by decide, show hasT 1 = false by decide, show hasK 1 = false by decide] at hR
  obtain ⟨nb, hnb⟩ : ∃ p : ByteArray, (⟨name.toArray⟩ : ByteArray) = p := ⟨_, rfl⟩
  obtain ⟨tb, htb⟩ : ∃ p : ByteArray, (⟨text.toArray⟩ : ByteArray) = p := ⟨_, rfl⟩
  have hns := sv_size hnb
  have hts := sv_size htb
  rw [hnb, htb]
  have HBX := Lib.hid (Bk.new w 44 [.int .i64 1, .string nb, .string tb, .int .i64 num, .int .i64 most])
  have HIS := Lib.hid (fun s W => wIsName s W)
  by_cases c1 : nb.size < 1
  · have d1 : decide (1 ≤ nb.size) = false := decide_eq_false (by omega)
    rw [if_pos ⟨rfl, .inl (by omega)⟩] at hR
    have HV := Lib.hid hR.symm
    have HIN := Lib.hid (fun W => isName_of (b := false) nb W (by simp [d1]))
    clear hR
    go_enter Tryd.func42, Tryd.ntmps42
    go_wp2_with fail
    refine (wShape1 _).mono ?_
    rintro e w1 ⟨rfl, hF1⟩
    have hF1' : Fr No w w1 := ((Fr.refl No w).alloc _).then_ hF1
    obtain ⟨y0, y1, y2, y3, y4, yf⟩ := Bk.five (Bk.fr (S := No) HBX.out hF1 id)
    obtain ⟨z0, z1, z2, z3, z4, zf⟩ := Bk.five (Bk.alloc (Bk.fr (S := No) HBX.out hF1 id) (.cells #[.bool true, .bool false, .bool false, .bool false, .bool false] 71 (0, 0)))
    go_wp2_with fail
    refine (HIN.out _).mono ?_
    rintro e w2 ⟨rfl, rfl⟩
    go_wp2
    go_ret
    refine ⟨?_, hF1'.alloc _⟩
    first | rfl | simp [HV.out] | (rw [HV.out]; rfl)
  have d1 : decide (1 ≤ nb.size) = true := decide_eq_true (by omega)
  by_cases c2 : 16 < nb.size
  · have d2 : decide (nb.size ≤ 16) = false := decide_eq_false (by omega)
    have HIN := Lib.hid (fun W => isName_of (b := false) nb W (by simp [d2]))
    rw [if_pos ⟨rfl, .inr (by omega)⟩] at hR
    have HV := Lib.hid hR.symm
    clear hR
    go_enter Tryd.func42, Tryd.ntmps42
    go_wp2_with fail
    refine (wShape1 _).mono ?_
    rintro e w1 ⟨rfl, hF1⟩
    have hF1' : Fr No w w1 := ((Fr.refl No w).alloc _).then_ hF1
    obtain ⟨y0, y1, y2, y3, y4, yf⟩ := Bk.five (Bk.fr (S := No) HBX.out hF1 id)
    obtain ⟨z0, z1, z2, z3, z4, zf⟩ := Bk.five (Bk.alloc (Bk.fr (S := No) HBX.out hF1 id) (.cells #[.bool true, .bool false, .bool false, .bool false, .bool false] 71 (0, 0)))
    go_wp2_with fail
    refine (HIN.out _).mono ?_
    rintro e w2 ⟨rfl, rfl⟩
    go_wp2
    go_ret
    refine ⟨?_, hF1'.alloc _⟩
    first | rfl | simp [HV.out] | (rw [HV.out]; rfl)
  have d2 : decide (nb.size ≤ 16) = true := decide_eq_true (by omega)
  have HIN := Lib.hid (fun W => isName_of (b := true) nb W (by simp [d1, d2]))
  rw [if_neg (fun q => by rcases q.2 with q | q <;> omega)] at hR
  rw [if_neg (fun q => by rcases q with ⟨q, _⟩ | ⟨q, _⟩ <;> exact absurd q (by decide))] at hR
  rw [if_neg (fun q => by cases q.1)] at hR
  rw [if_neg (fun q => absurd q.1 (by decide))] at hR
  by_cases c10 : text ≠ []
  · obtain ⟨x1, x2, x3, x4⟩ := empty_no htb c10
    rw [if_pos (.inr (.inl ⟨rfl, c10⟩))] at hR
    have HV := Lib.hid hR.symm
    clear hR
    go_enter Tryd.func42, Tryd.ntmps42
    go_wp2_with fail
    refine (wShape1 _).mono ?_
    rintro e w1 ⟨rfl, hF1⟩
    have hF1' : Fr No w w1 := ((Fr.refl No w).alloc _).then_ hF1
    obtain ⟨y0, y1, y2, y3, y4, yf⟩ := Bk.five (Bk.fr (S := No) HBX.out hF1 id)
    obtain ⟨z0, z1, z2, z3, z4, zf⟩ := Bk.five (Bk.alloc (Bk.fr (S := No) HBX.out hF1 id) (.cells #[.bool true, .bool false, .bool false, .bool false, .bool false] 71 (0, 0)))
    go_wp2_with fail
    refine (HIN.out _).mono ?_
    rintro e w2 ⟨rfl, rfl⟩
    go_wp2
    go_ret
    refine ⟨?_, hF1'.alloc _⟩
    first | rfl | simp [HV.out] | (rw [HV.out]; rfl)
  have c10 : text = [] := Decidable.not_not.1 c10
  subst c10
  obtain rfl : tb = ⟨#[]⟩ := htb.symm
  by_cases c11 : num ≠ 0
  · have x5 : (num != 0) = true := bne_iff_ne.2 c11
    rw [if_pos (.inr (.inr (.inl ⟨rfl, c11⟩)))] at hR
    have HV := Lib.hid hR.symm
    clear hR
    go_enter Tryd.func42, Tryd.ntmps42
    go_wp2_with fail
    refine (wShape1 _).mono ?_
    rintro e w1 ⟨rfl, hF1⟩
    have hF1' : Fr No w w1 := ((Fr.refl No w).alloc _).then_ hF1
    obtain ⟨y0, y1, y2, y3, y4, yf⟩ := Bk.five (Bk.fr (S := No) HBX.out hF1 id)
    obtain ⟨z0, z1, z2, z3, z4, zf⟩ := Bk.five (Bk.alloc (Bk.fr (S := No) HBX.out hF1 id) (.cells #[.bool true, .bool false, .bool false, .bool false, .bool false] 71 (0, 0)))
    go_wp2_with fail
    refine (HIN.out _).mono ?_
    rintro e w2 ⟨rfl, rfl⟩
    go_wp2
    go_ret
    refine ⟨?_, hF1'.alloc _⟩
    first | rfl | simp [HV.out] | (rw [HV.out]; rfl)
  have c11 : num = 0 := Decidable.not_not.1 c11
  subst c11
  by_cases c12 : most ≠ 0
  · have x6 : (most != 0) = true := bne_iff_ne.2 c12
    rw [if_pos (.inr (.inr (.inr ⟨by decide, c12⟩)))] at hR
    have HV := Lib.hid hR.symm
    clear hR
    go_enter Tryd.func42, Tryd.ntmps42
    go_wp2_with fail
    refine (wShape1 _).mono ?_
    rintro e w1 ⟨rfl, hF1⟩
    have hF1' : Fr No w w1 := ((Fr.refl No w).alloc _).then_ hF1
    obtain ⟨y0, y1, y2, y3, y4, yf⟩ := Bk.five (Bk.fr (S := No) HBX.out hF1 id)
    obtain ⟨z0, z1, z2, z3, z4, zf⟩ := Bk.five (Bk.alloc (Bk.fr (S := No) HBX.out hF1 id) (.cells #[.bool true, .bool false, .bool false, .bool false, .bool false] 71 (0, 0)))
    go_wp2_with fail
    refine (HIN.out _).mono ?_
    rintro e w2 ⟨rfl, rfl⟩
    go_wp2
    go_ret
    refine ⟨?_, hF1'.alloc _⟩
    first | rfl | simp [HV.out] | (rw [HV.out]; rfl)
  have c12 : most = 0 := Decidable.not_not.1 c12
  subst c12
  rw [if_neg (by simp)] at hR
  have HV := Lib.hid hR.symm
  clear hR
  go_enter Tryd.func42, Tryd.ntmps42
  go_wp2_with fail
  refine (wShape1 _).mono ?_
  rintro e w1 ⟨rfl, hF1⟩
  have hF1' : Fr No w w1 := ((Fr.refl No w).alloc _).then_ hF1
  obtain ⟨y0, y1, y2, y3, y4, yf⟩ := Bk.five (Bk.fr (S := No) HBX.out hF1 id)
  obtain ⟨z0, z1, z2, z3, z4, zf⟩ := Bk.five (Bk.alloc (Bk.fr (S := No) HBX.out hF1 id) (.cells #[.bool true, .bool false, .bool false, .bool false, .bool false] 71 (0, 0)))
  go_wp2_with fail
  refine (HIN.out _).mono ?_
  rintro e w2 ⟨rfl, rfl⟩
  go_wp2
  go_ret
  refine ⟨?_, hF1'.alloc _⟩
  first | rfl | simp [HV.out] | (rw [HV.out]; rfl)
set_option maxHeartbeats 8000000 in
set_option maxRecDepth 100000 in
theorem wCheck2 (o : OV) (hk : o.kind = 2) (w : World) : Calls Tryd.prog 42 #[o.v] w fun e w' => e = .returned (.int .i64 (chkO o)) ∧ Fr No w w' := by
  obtain ⟨kind, name, text, num, most⟩ := o
  dsimp only at hk
  subst hk
  unfold OV.v sv
  dsimp only
  obtain ⟨R, hR⟩ : ∃ R, chkO ⟨2, name, text, num, most⟩ = R := ⟨_, rfl⟩
  rw [hR]
  unfold chkO at hR
  dsimp only at hR
  rw [if_neg (show ¬ ((2 : Int) < 1 ∨ 8 < (2 : Int)) by decide)] at hR
  rw [show hasN 2 = true by decide, show hasT 2 = false by decide, show hasK 2 = false by decide] at hR
  obtain ⟨nb, hnb⟩ : ∃ p : ByteArray, (⟨name.toArray⟩ : ByteArray) = p := ⟨_, rfl⟩
  obtain ⟨tb, htb⟩ : ∃ p : ByteArray, (⟨text.toArray⟩ : ByteArray) = p := ⟨_, rfl⟩
  have hns := sv_size hnb
  have hts := sv_size htb
  rw [hnb, htb]
  have HBX := Lib.hid (Bk.new w 44 [.int .i64 2, .string nb, .string tb, .int .i64 num, .int .i64 most])
  have HIS := Lib.hid (fun s W => wIsName s W)
  by_cases c1 : nb.size < 1
  · have d1 : decide (1 ≤ nb.size) = false := decide_eq_false (by omega)
    rw [if_pos ⟨rfl, .inl (by omega)⟩] at hR
    have HV := Lib.hid hR.symm
    have HIN := Lib.hid (fun W => isName_of (b := false) nb W (by simp [d1]))
    clear hR
    go_enter Tryd.func42, Tryd.ntmps42
    go_wp2_with fail
    refine (wShape2 _).mono ?_
    rintro e w1 ⟨rfl, hF1⟩
    have hF1' : Fr No w w1 := ((Fr.refl No w).alloc _).then_ hF1
    obtain ⟨y0, y1, y2, y3, y4, yf⟩ := Bk.five (Bk.fr (S := No) HBX.out hF1 id)
    obtain ⟨z0, z1, z2, z3, z4, zf⟩ := Bk.five (Bk.alloc (Bk.fr (S := No) HBX.out hF1 id) (.cells #[.bool true, .bool false, .bool false, .bool false, .bool false] 71 (0, 0)))
    go_wp2_with fail
    refine (HIN.out _).mono ?_
    rintro e w2 ⟨rfl, rfl⟩
    go_wp2
    go_ret
    refine ⟨?_, hF1'.alloc _⟩
    first | rfl | simp [HV.out] | (rw [HV.out]; rfl)
  have d1 : decide (1 ≤ nb.size) = true := decide_eq_true (by omega)
  by_cases c2 : 16 < nb.size
  · have d2 : decide (nb.size ≤ 16) = false := decide_eq_false (by omega)
    have HIN := Lib.hid (fun W => isName_of (b := false) nb W (by simp [d2]))
    rw [if_pos ⟨rfl, .inr (by omega)⟩] at hR
    have HV := Lib.hid hR.symm
    clear hR
    go_enter Tryd.func42, Tryd.ntmps42
    go_wp2_with fail
    refine (wShape2 _).mono ?_
    rintro e w1 ⟨rfl, hF1⟩
    have hF1' : Fr No w w1 := ((Fr.refl No w).alloc _).then_ hF1
    obtain ⟨y0, y1, y2, y3, y4, yf⟩ := Bk.five (Bk.fr (S := No) HBX.out hF1 id)
    obtain ⟨z0, z1, z2, z3, z4, zf⟩ := Bk.five (Bk.alloc (Bk.fr (S := No) HBX.out hF1 id) (.cells #[.bool true, .bool false, .bool false, .bool false, .bool false] 71 (0, 0)))
    go_wp2_with fail
    refine (HIN.out _).mono ?_
    rintro e w2 ⟨rfl, rfl⟩
    go_wp2
    go_ret
    refine ⟨?_, hF1'.alloc _⟩
    first | rfl | simp [HV.out] | (rw [HV.out]; rfl)
  have d2 : decide (nb.size ≤ 16) = true := decide_eq_true (by omega)
  have HIN := Lib.hid (fun W => isName_of (b := true) nb W (by simp [d1, d2]))
  rw [if_neg (fun q => by rcases q.2 with q | q <;> omega)] at hR
  rw [if_neg (fun q => by rcases q with ⟨q, _⟩ | ⟨q, _⟩ <;> exact absurd q (by decide))] at hR
  rw [if_neg (fun q => by cases q.1)] at hR
  rw [if_neg (fun q => absurd q.1 (by decide))] at hR
  by_cases c10 : text ≠ []
  · obtain ⟨x1, x2, x3, x4⟩ := empty_no htb c10
    rw [if_pos (.inr (.inl ⟨rfl, c10⟩))] at hR
    have HV := Lib.hid hR.symm
    clear hR
    go_enter Tryd.func42, Tryd.ntmps42
    go_wp2_with fail
    refine (wShape2 _).mono ?_
    rintro e w1 ⟨rfl, hF1⟩
    have hF1' : Fr No w w1 := ((Fr.refl No w).alloc _).then_ hF1
    obtain ⟨y0, y1, y2, y3, y4, yf⟩ := Bk.five (Bk.fr (S := No) HBX.out hF1 id)
    obtain ⟨z0, z1, z2, z3, z4, zf⟩ := Bk.five (Bk.alloc (Bk.fr (S := No) HBX.out hF1 id) (.cells #[.bool true, .bool false, .bool false, .bool false, .bool false] 71 (0, 0)))
    go_wp2_with fail
    refine (HIN.out _).mono ?_
    rintro e w2 ⟨rfl, rfl⟩
    go_wp2
    go_ret
    refine ⟨?_, hF1'.alloc _⟩
    first | rfl | simp [HV.out] | (rw [HV.out]; rfl)
  have c10 : text = [] := Decidable.not_not.1 c10
  subst c10
  obtain rfl : tb = ⟨#[]⟩ := htb.symm
  by_cases c11 : num ≠ 0
  · have x5 : (num != 0) = true := bne_iff_ne.2 c11
    rw [if_pos (.inr (.inr (.inl ⟨rfl, c11⟩)))] at hR
    have HV := Lib.hid hR.symm
    clear hR
    go_enter Tryd.func42, Tryd.ntmps42
    go_wp2_with fail
    refine (wShape2 _).mono ?_
    rintro e w1 ⟨rfl, hF1⟩
    have hF1' : Fr No w w1 := ((Fr.refl No w).alloc _).then_ hF1
    obtain ⟨y0, y1, y2, y3, y4, yf⟩ := Bk.five (Bk.fr (S := No) HBX.out hF1 id)
    obtain ⟨z0, z1, z2, z3, z4, zf⟩ := Bk.five (Bk.alloc (Bk.fr (S := No) HBX.out hF1 id) (.cells #[.bool true, .bool false, .bool false, .bool false, .bool false] 71 (0, 0)))
    go_wp2_with fail
    refine (HIN.out _).mono ?_
    rintro e w2 ⟨rfl, rfl⟩
    go_wp2
    go_ret
    refine ⟨?_, hF1'.alloc _⟩
    first | rfl | simp [HV.out] | (rw [HV.out]; rfl)
  have c11 : num = 0 := Decidable.not_not.1 c11
  subst c11
  by_cases c12 : most ≠ 0
  · have x6 : (most != 0) = true := bne_iff_ne.2 c12
    rw [if_pos (.inr (.inr (.inr ⟨by decide, c12⟩)))] at hR
    have HV := Lib.hid hR.symm
    clear hR
    go_enter Tryd.func42, Tryd.ntmps42
    go_wp2_with fail
    refine (wShape2 _).mono ?_
    rintro e w1 ⟨rfl, hF1⟩
    have hF1' : Fr No w w1 := ((Fr.refl No w).alloc _).then_ hF1
    obtain ⟨y0, y1, y2, y3, y4, yf⟩ := Bk.five (Bk.fr (S := No) HBX.out hF1 id)
    obtain ⟨z0, z1, z2, z3, z4, zf⟩ := Bk.five (Bk.alloc (Bk.fr (S := No) HBX.out hF1 id) (.cells #[.bool true, .bool false, .bool false, .bool false, .bool false] 71 (0, 0)))
    go_wp2_with fail
    refine (HIN.out _).mono ?_
    rintro e w2 ⟨rfl, rfl⟩
    go_wp2
    go_ret
    refine ⟨?_, hF1'.alloc _⟩
    first | rfl | simp [HV.out] | (rw [HV.out]; rfl)
  have c12 : most = 0 := Decidable.not_not.1 c12
  subst c12
  rw [if_neg (by simp)] at hR
  have HV := Lib.hid hR.symm
  clear hR
  go_enter Tryd.func42, Tryd.ntmps42
  go_wp2_with fail
  refine (wShape2 _).mono ?_
  rintro e w1 ⟨rfl, hF1⟩
  have hF1' : Fr No w w1 := ((Fr.refl No w).alloc _).then_ hF1
  obtain ⟨y0, y1, y2, y3, y4, yf⟩ := Bk.five (Bk.fr (S := No) HBX.out hF1 id)
  obtain ⟨z0, z1, z2, z3, z4, zf⟩ := Bk.five (Bk.alloc (Bk.fr (S := No) HBX.out hF1 id) (.cells #[.bool true, .bool false, .bool false, .bool false, .bool false] 71 (0, 0)))
  go_wp2_with fail
  refine (HIN.out _).mono ?_
  rintro e w2 ⟨rfl, rfl⟩
  go_wp2
  go_ret
  refine ⟨?_, hF1'.alloc _⟩
  first | rfl | simp [HV.out] | (rw [HV.out]; rfl)
set_option maxHeartbeats 8000000 in
set_option maxRecDepth 100000 in
theorem wCheck3 (o : OV) (hk : o.kind = 3) (w : World) : Calls Tryd.prog 42 #[o.v] w fun e w' => e = .returned (.int .i64 (chkO o)) ∧ Fr No w w' := by
  obtain ⟨kind, name, text, num, most⟩ := o
  dsimp only at hk
  subst hk
  unfold OV.v sv
  dsimp only
  obtain ⟨R, hR⟩ : ∃ R, chkO ⟨3, name, text, num, most⟩ = R := ⟨_, rfl⟩
  rw [hR]
  unfold chkO at hR
  dsimp only at hR
  rw [if_neg (show ¬ ((3 : Int) < 1 ∨ 8 < (3 : Int)) by decide)] at hR
  rw [show hasN 3 = true by decide, show hasT 3 = true by decide, show hasK 3 = false by decide] at hR
  obtain ⟨nb, hnb⟩ : ∃ p : ByteArray, (⟨name.toArray⟩ : ByteArray) = p := ⟨_, rfl⟩
  obtain ⟨tb, htb⟩ : ∃ p : ByteArray, (⟨text.toArray⟩ : ByteArray) = p := ⟨_, rfl⟩
  have hns := sv_size hnb
  have hts := sv_size htb
  rw [hnb, htb]
  have HBX := Lib.hid (Bk.new w 44 [.int .i64 3, .string nb, .string tb, .int .i64 num, .int .i64 most])
  have HIS := Lib.hid (fun s W => wIsName s W)
  by_cases c1 : nb.size < 1
  · have d1 : decide (1 ≤ nb.size) = false := decide_eq_false (by omega)
    rw [if_pos ⟨rfl, .inl (by omega)⟩] at hR
    have HV := Lib.hid hR.symm
    have HIN := Lib.hid (fun W => isName_of (b := false) nb W (by simp [d1]))
    clear hR
    go_enter Tryd.func42, Tryd.ntmps42
    go_wp2_with fail
    refine (wShape3 _).mono ?_
    rintro e w1 ⟨rfl, hF1⟩
    have hF1' : Fr No w w1 := ((Fr.refl No w).alloc _).then_ hF1
    obtain ⟨y0, y1, y2, y3, y4, yf⟩ := Bk.five (Bk.fr (S := No) HBX.out hF1 id)
    obtain ⟨z0, z1, z2, z3, z4, zf⟩ := Bk.five (Bk.alloc (Bk.fr (S := No) HBX.out hF1 id) (.cells #[.bool true, .bool true, .bool false, .bool false, .bool false] 71 (0, 0)))
    go_wp2_with fail
    refine (HIN.out _).mono ?_
    rintro e w2 ⟨rfl, rfl⟩
    go_wp2
    go_ret
    refine ⟨?_, hF1'.alloc _⟩
    first | rfl | simp [HV.out] | (rw [HV.out]; rfl)
  have d1 : decide (1 ≤ nb.size) = true := decide_eq_true (by omega)
  by_cases c2 : 16 < nb.size
  · have d2 : decide (nb.size ≤ 16) = false := decide_eq_false (by omega)
    have HIN := Lib.hid (fun W => isName_of (b := false) nb W (by simp [d2]))
    rw [if_pos ⟨rfl, .inr (by omega)⟩] at hR
    have HV := Lib.hid hR.symm
    clear hR
    go_enter Tryd.func42, Tryd.ntmps42
    go_wp2_with fail
    refine (wShape3 _).mono ?_
    rintro e w1 ⟨rfl, hF1⟩
    have hF1' : Fr No w w1 := ((Fr.refl No w).alloc _).then_ hF1
    obtain ⟨y0, y1, y2, y3, y4, yf⟩ := Bk.five (Bk.fr (S := No) HBX.out hF1 id)
    obtain ⟨z0, z1, z2, z3, z4, zf⟩ := Bk.five (Bk.alloc (Bk.fr (S := No) HBX.out hF1 id) (.cells #[.bool true, .bool true, .bool false, .bool false, .bool false] 71 (0, 0)))
    go_wp2_with fail
    refine (HIN.out _).mono ?_
    rintro e w2 ⟨rfl, rfl⟩
    go_wp2
    go_ret
    refine ⟨?_, hF1'.alloc _⟩
    first | rfl | simp [HV.out] | (rw [HV.out]; rfl)
  have d2 : decide (nb.size ≤ 16) = true := decide_eq_true (by omega)
  have HIN := Lib.hid (fun W => isName_of (b := true) nb W (by simp [d1, d2]))
  rw [if_neg (fun q => by rcases q.2 with q | q <;> omega)] at hR
  by_cases c3 : 64 < tb.size
  · have d3 : decide ((64 : Int) < (tb.size : Int)) = true := decide_eq_true (by omega)
    have d3' : decide (64 < tb.size) = true := decide_eq_true c3
    rw [if_pos (.inr ⟨rfl, by omega⟩)] at hR
    have HV := Lib.hid hR.symm
    clear hR
    go_enter Tryd.func42, Tryd.ntmps42
    go_wp2_with fail
    refine (wShape3 _).mono ?_
    rintro e w1 ⟨rfl, hF1⟩
    have hF1' : Fr No w w1 := ((Fr.refl No w).alloc _).then_ hF1
    obtain ⟨y0, y1, y2, y3, y4, yf⟩ := Bk.five (Bk.fr (S := No) HBX.out hF1 id)
    obtain ⟨z0, z1, z2, z3, z4, zf⟩ := Bk.five (Bk.alloc (Bk.fr (S := No) HBX.out hF1 id) (.cells #[.bool true, .bool true, .bool false, .bool false, .bool false] 71 (0, 0)))
    go_wp2_with fail
    refine (HIN.out _).mono ?_
    rintro e w2 ⟨rfl, rfl⟩
    go_wp2
    go_ret
    refine ⟨?_, hF1'.alloc _⟩
    first | rfl | simp [HV.out] | (rw [HV.out]; rfl)
  have d3 : decide ((64 : Int) < (tb.size : Int)) = false := decide_eq_false (by omega)
  have d3' : decide (64 < tb.size) = false := decide_eq_false c3
  rw [if_neg (fun q => by rcases q with ⟨q, _⟩ | ⟨_, q⟩; exact absurd q (by decide); omega)] at hR
  rw [if_neg (fun q => by cases q.1)] at hR
  rw [if_neg (fun q => absurd q.1 (by decide))] at hR
  by_cases c11 : num ≠ 0
  · have x5 : (num != 0) = true := bne_iff_ne.2 c11
    rw [if_pos (.inr (.inr (.inl ⟨rfl, c11⟩)))] at hR
    have HV := Lib.hid hR.symm
    clear hR
    go_enter Tryd.func42, Tryd.ntmps42
    go_wp2_with fail
    refine (wShape3 _).mono ?_
    rintro e w1 ⟨rfl, hF1⟩
    have hF1' : Fr No w w1 := ((Fr.refl No w).alloc _).then_ hF1
    obtain ⟨y0, y1, y2, y3, y4, yf⟩ := Bk.five (Bk.fr (S := No) HBX.out hF1 id)
    obtain ⟨z0, z1, z2, z3, z4, zf⟩ := Bk.five (Bk.alloc (Bk.fr (S := No) HBX.out hF1 id) (.cells #[.bool true, .bool true, .bool false, .bool false, .bool false] 71 (0, 0)))
    go_wp2_with fail
    refine (HIN.out _).mono ?_
    rintro e w2 ⟨rfl, rfl⟩
    go_wp2
    go_ret
    refine ⟨?_, hF1'.alloc _⟩
    first | rfl | simp [HV.out] | (rw [HV.out]; rfl)
  have c11 : num = 0 := Decidable.not_not.1 c11
  subst c11
  by_cases c12 : most ≠ 0
  · have x6 : (most != 0) = true := bne_iff_ne.2 c12
    rw [if_pos (.inr (.inr (.inr ⟨by decide, c12⟩)))] at hR
    have HV := Lib.hid hR.symm
    clear hR
    go_enter Tryd.func42, Tryd.ntmps42
    go_wp2_with fail
    refine (wShape3 _).mono ?_
    rintro e w1 ⟨rfl, hF1⟩
    have hF1' : Fr No w w1 := ((Fr.refl No w).alloc _).then_ hF1
    obtain ⟨y0, y1, y2, y3, y4, yf⟩ := Bk.five (Bk.fr (S := No) HBX.out hF1 id)
    obtain ⟨z0, z1, z2, z3, z4, zf⟩ := Bk.five (Bk.alloc (Bk.fr (S := No) HBX.out hF1 id) (.cells #[.bool true, .bool true, .bool false, .bool false, .bool false] 71 (0, 0)))
    go_wp2_with fail
    refine (HIN.out _).mono ?_
    rintro e w2 ⟨rfl, rfl⟩
    go_wp2
    go_ret
    refine ⟨?_, hF1'.alloc _⟩
    first | rfl | simp [HV.out] | (rw [HV.out]; rfl)
  have c12 : most = 0 := Decidable.not_not.1 c12
  subst c12
  rw [if_neg (by simp)] at hR
  have HV := Lib.hid hR.symm
  clear hR
  go_enter Tryd.func42, Tryd.ntmps42
  go_wp2_with fail
  refine (wShape3 _).mono ?_
  rintro e w1 ⟨rfl, hF1⟩
  have hF1' : Fr No w w1 := ((Fr.refl No w).alloc _).then_ hF1
  obtain ⟨y0, y1, y2, y3, y4, yf⟩ := Bk.five (Bk.fr (S := No) HBX.out hF1 id)
  obtain ⟨z0, z1, z2, z3, z4, zf⟩ := Bk.five (Bk.alloc (Bk.fr (S := No) HBX.out hF1 id) (.cells #[.bool true, .bool true, .bool false, .bool false, .bool false] 71 (0, 0)))
  go_wp2_with fail
  refine (HIN.out _).mono ?_
  rintro e w2 ⟨rfl, rfl⟩
  go_wp2
  go_ret
  refine ⟨?_, hF1'.alloc _⟩
  first | rfl | simp [HV.out] | (rw [HV.out]; rfl)
set_option maxHeartbeats 8000000 in
set_option maxRecDepth 100000 in
theorem wCheck4 (o : OV) (hk : o.kind = 4) (w : World) : Calls Tryd.prog 42 #[o.v] w fun e w' => e = .returned (.int .i64 (chkO o)) ∧ Fr No w w' := by
  obtain ⟨kind, name, text, num, most⟩ := o
  dsimp only at hk
  subst hk
  unfold OV.v sv
  dsimp only
  obtain ⟨R, hR⟩ : ∃ R, chkO ⟨4, name, text, num, most⟩ = R := ⟨_, rfl⟩
  rw [hR]
  unfold chkO at hR
  dsimp only at hR
  rw [if_neg (show ¬ ((4 : Int) < 1 ∨ 8 < (4 : Int)) by decide)] at hR
  rw [show hasN 4 = true by decide, show hasT 4 = false by decide, show hasK 4 = true by decide] at hR
  obtain ⟨nb, hnb⟩ : ∃ p : ByteArray, (⟨name.toArray⟩ : ByteArray) = p := ⟨_, rfl⟩
  obtain ⟨tb, htb⟩ : ∃ p : ByteArray, (⟨text.toArray⟩ : ByteArray) = p := ⟨_, rfl⟩
  have hns := sv_size hnb
  have hts := sv_size htb
  rw [hnb, htb]
  have HBX := Lib.hid (Bk.new w 44 [.int .i64 4, .string nb, .string tb, .int .i64 num, .int .i64 most])
  have HIS := Lib.hid (fun s W => wIsName s W)
  by_cases c1 : nb.size < 1
  · have d1 : decide (1 ≤ nb.size) = false := decide_eq_false (by omega)
    rw [if_pos ⟨rfl, .inl (by omega)⟩] at hR
    have HV := Lib.hid hR.symm
    have HIN := Lib.hid (fun W => isName_of (b := false) nb W (by simp [d1]))
    clear hR
    go_enter Tryd.func42, Tryd.ntmps42
    go_wp2_with fail
    refine (wShape4 _).mono ?_
    rintro e w1 ⟨rfl, hF1⟩
    have hF1' : Fr No w w1 := ((Fr.refl No w).alloc _).then_ hF1
    obtain ⟨y0, y1, y2, y3, y4, yf⟩ := Bk.five (Bk.fr (S := No) HBX.out hF1 id)
    obtain ⟨z0, z1, z2, z3, z4, zf⟩ := Bk.five (Bk.alloc (Bk.fr (S := No) HBX.out hF1 id) (.cells #[.bool true, .bool false, .bool false, .bool true, .bool false] 71 (0, 0)))
    go_wp2_with fail
    refine (HIN.out _).mono ?_
    rintro e w2 ⟨rfl, rfl⟩
    go_wp2
    go_ret
    refine ⟨?_, hF1'.alloc _⟩
    first | rfl | simp [HV.out] | (rw [HV.out]; rfl)
  have d1 : decide (1 ≤ nb.size) = true := decide_eq_true (by omega)
  by_cases c2 : 16 < nb.size
  · have d2 : decide (nb.size ≤ 16) = false := decide_eq_false (by omega)
    have HIN := Lib.hid (fun W => isName_of (b := false) nb W (by simp [d2]))
    rw [if_pos ⟨rfl, .inr (by omega)⟩] at hR
    have HV := Lib.hid hR.symm
    clear hR
    go_enter Tryd.func42, Tryd.ntmps42
    go_wp2_with fail
    refine (wShape4 _).mono ?_
    rintro e w1 ⟨rfl, hF1⟩
    have hF1' : Fr No w w1 := ((Fr.refl No w).alloc _).then_ hF1
    obtain ⟨y0, y1, y2, y3, y4, yf⟩ := Bk.five (Bk.fr (S := No) HBX.out hF1 id)
    obtain ⟨z0, z1, z2, z3, z4, zf⟩ := Bk.five (Bk.alloc (Bk.fr (S := No) HBX.out hF1 id) (.cells #[.bool true, .bool false, .bool false, .bool true, .bool false] 71 (0, 0)))
    go_wp2_with fail
    refine (HIN.out _).mono ?_
    rintro e w2 ⟨rfl, rfl⟩
    go_wp2
    go_ret
    refine ⟨?_, hF1'.alloc _⟩
    first | rfl | simp [HV.out] | (rw [HV.out]; rfl)
  have d2 : decide (nb.size ≤ 16) = true := decide_eq_true (by omega)
  have HIN := Lib.hid (fun W => isName_of (b := true) nb W (by simp [d1, d2]))
  rw [if_neg (fun q => by rcases q.2 with q | q <;> omega)] at hR
  rw [if_neg (fun q => by rcases q with ⟨q, _⟩ | ⟨q, _⟩ <;> exact absurd q (by decide))] at hR
  by_cases c5 : num < 0
  · have d6 : decide (num < 0) = true := decide_eq_true c5
    rw [if_pos ⟨rfl, .inl c5⟩] at hR
    have HV := Lib.hid hR.symm
    clear hR
    go_enter Tryd.func42, Tryd.ntmps42
    go_wp2_with fail
    refine (wShape4 _).mono ?_
    rintro e w1 ⟨rfl, hF1⟩
    have hF1' : Fr No w w1 := ((Fr.refl No w).alloc _).then_ hF1
    obtain ⟨y0, y1, y2, y3, y4, yf⟩ := Bk.five (Bk.fr (S := No) HBX.out hF1 id)
    obtain ⟨z0, z1, z2, z3, z4, zf⟩ := Bk.five (Bk.alloc (Bk.fr (S := No) HBX.out hF1 id) (.cells #[.bool true, .bool false, .bool false, .bool true, .bool false] 71 (0, 0)))
    go_wp2_with fail
    refine (HIN.out _).mono ?_
    rintro e w2 ⟨rfl, rfl⟩
    go_wp2
    go_ret
    refine ⟨?_, hF1'.alloc _⟩
    first | rfl | simp [HV.out] | (rw [HV.out]; rfl)
  have d6 : decide (num < 0) = false := decide_eq_false c5
  by_cases c6 : 1099511627776 < num
  · have d7 : decide (1099511627776 < num) = true := decide_eq_true c6
    rw [if_pos ⟨rfl, .inr c6⟩] at hR
    have HV := Lib.hid hR.symm
    clear hR
    go_enter Tryd.func42, Tryd.ntmps42
    go_wp2_with fail
    refine (wShape4 _).mono ?_
    rintro e w1 ⟨rfl, hF1⟩
    have hF1' : Fr No w w1 := ((Fr.refl No w).alloc _).then_ hF1
    obtain ⟨y0, y1, y2, y3, y4, yf⟩ := Bk.five (Bk.fr (S := No) HBX.out hF1 id)
    obtain ⟨z0, z1, z2, z3, z4, zf⟩ := Bk.five (Bk.alloc (Bk.fr (S := No) HBX.out hF1 id) (.cells #[.bool true, .bool false, .bool false, .bool true, .bool false] 71 (0, 0)))
    go_wp2_with fail
    refine (HIN.out _).mono ?_
    rintro e w2 ⟨rfl, rfl⟩
    go_wp2
    go_ret
    refine ⟨?_, hF1'.alloc _⟩
    first | rfl | simp [HV.out] | (rw [HV.out]; rfl)
  have d7 : decide (1099511627776 < num) = false := decide_eq_false c6
  rw [if_neg (fun q => by rcases q.2 with q | q; exact c5 q; exact c6 q)] at hR
  rw [if_neg (fun q => absurd q.1 (by decide))] at hR
  by_cases c10 : text ≠ []
  · obtain ⟨x1, x2, x3, x4⟩ := empty_no htb c10
    rw [if_pos (.inr (.inl ⟨rfl, c10⟩))] at hR
    have HV := Lib.hid hR.symm
    clear hR
    go_enter Tryd.func42, Tryd.ntmps42
    go_wp2_with fail
    refine (wShape4 _).mono ?_
    rintro e w1 ⟨rfl, hF1⟩
    have hF1' : Fr No w w1 := ((Fr.refl No w).alloc _).then_ hF1
    obtain ⟨y0, y1, y2, y3, y4, yf⟩ := Bk.five (Bk.fr (S := No) HBX.out hF1 id)
    obtain ⟨z0, z1, z2, z3, z4, zf⟩ := Bk.five (Bk.alloc (Bk.fr (S := No) HBX.out hF1 id) (.cells #[.bool true, .bool false, .bool false, .bool true, .bool false] 71 (0, 0)))
    go_wp2_with fail
    refine (HIN.out _).mono ?_
    rintro e w2 ⟨rfl, rfl⟩
    go_wp2
    go_ret
    refine ⟨?_, hF1'.alloc _⟩
    first | rfl | simp [HV.out] | (rw [HV.out]; rfl)
  have c10 : text = [] := Decidable.not_not.1 c10
  subst c10
  obtain rfl : tb = ⟨#[]⟩ := htb.symm
  by_cases c12 : most ≠ 0
  · have x6 : (most != 0) = true := bne_iff_ne.2 c12
    rw [if_pos (.inr (.inr (.inr ⟨by decide, c12⟩)))] at hR
    have HV := Lib.hid hR.symm
    clear hR
    go_enter Tryd.func42, Tryd.ntmps42
    go_wp2_with fail
    refine (wShape4 _).mono ?_
    rintro e w1 ⟨rfl, hF1⟩
    have hF1' : Fr No w w1 := ((Fr.refl No w).alloc _).then_ hF1
    obtain ⟨y0, y1, y2, y3, y4, yf⟩ := Bk.five (Bk.fr (S := No) HBX.out hF1 id)
    obtain ⟨z0, z1, z2, z3, z4, zf⟩ := Bk.five (Bk.alloc (Bk.fr (S := No) HBX.out hF1 id) (.cells #[.bool true, .bool false, .bool false, .bool true, .bool false] 71 (0, 0)))
    go_wp2_with fail
    refine (HIN.out _).mono ?_
    rintro e w2 ⟨rfl, rfl⟩
    go_wp2
    go_ret
    refine ⟨?_, hF1'.alloc _⟩
    first | rfl | simp [HV.out] | (rw [HV.out]; rfl)
  have c12 : most = 0 := Decidable.not_not.1 c12
  subst c12
  rw [if_neg (by simp)] at hR
  have HV := Lib.hid hR.symm
  clear hR
  go_enter Tryd.func42, Tryd.ntmps42
  go_wp2_with fail
  refine (wShape4 _).mono ?_
  rintro e w1 ⟨rfl, hF1⟩
  have hF1' : Fr No w w1 := ((Fr.refl No w).alloc _).then_ hF1
  obtain ⟨y0, y1, y2, y3, y4, yf⟩ := Bk.five (Bk.fr (S := No) HBX.out hF1 id)
  obtain ⟨z0, z1, z2, z3, z4, zf⟩ := Bk.five (Bk.alloc (Bk.fr (S := No) HBX.out hF1 id) (.cells #[.bool true, .bool false, .bool false, .bool true, .bool false] 71 (0, 0)))
  go_wp2_with fail
  refine (HIN.out _).mono ?_
  rintro e w2 ⟨rfl, rfl⟩
  go_wp2
  go_ret
  refine ⟨?_, hF1'.alloc _⟩
  first | rfl | simp [HV.out] | (rw [HV.out]; rfl)
set_option maxHeartbeats 8000000 in
set_option maxRecDepth 100000 in
theorem wCheck5 (o : OV) (hk : o.kind = 5) (w : World) : Calls Tryd.prog 42 #[o.v] w fun e w' => e = .returned (.int .i64 (chkO o)) ∧ Fr No w w' := by
  obtain ⟨kind, name, text, num, most⟩ := o
  dsimp only at hk
  subst hk
  unfold OV.v sv
  dsimp only
  obtain ⟨R, hR⟩ : ∃ R, chkO ⟨5, name, text, num, most⟩ = R := ⟨_, rfl⟩
  rw [hR]
  unfold chkO at hR
  dsimp only at hR
  rw [if_neg (show ¬ ((5 : Int) < 1 ∨ 8 < (5 : Int)) by decide)] at hR
  rw [show hasN 5 = true by decide, show hasT 5 = true by decide, show hasK 5 = false by decide] at hR
  obtain ⟨nb, hnb⟩ : ∃ p : ByteArray, (⟨name.toArray⟩ : ByteArray) = p := ⟨_, rfl⟩
  obtain ⟨tb, htb⟩ : ∃ p : ByteArray, (⟨text.toArray⟩ : ByteArray) = p := ⟨_, rfl⟩
  have hns := sv_size hnb
  have hts := sv_size htb
  rw [hnb, htb]
  have HBX := Lib.hid (Bk.new w 44 [.int .i64 5, .string nb, .string tb, .int .i64 num, .int .i64 most])
  have HIS := Lib.hid (fun s W => wIsName s W)
  by_cases c1 : nb.size < 1
  · have d1 : decide (1 ≤ nb.size) = false := decide_eq_false (by omega)
    rw [if_pos ⟨rfl, .inl (by omega)⟩] at hR
    have HV := Lib.hid hR.symm
    have HIN := Lib.hid (fun W => isName_of (b := false) nb W (by simp [d1]))
    clear hR
    go_enter Tryd.func42, Tryd.ntmps42
    go_wp2_with fail
    refine (wShape5 _).mono ?_
    rintro e w1 ⟨rfl, hF1⟩
    have hF1' : Fr No w w1 := ((Fr.refl No w).alloc _).then_ hF1
    obtain ⟨y0, y1, y2, y3, y4, yf⟩ := Bk.five (Bk.fr (S := No) HBX.out hF1 id)
    obtain ⟨z0, z1, z2, z3, z4, zf⟩ := Bk.five (Bk.alloc (Bk.fr (S := No) HBX.out hF1 id) (.cells #[.bool true, .bool true, .bool true, .bool false, .bool false] 71 (0, 0)))
    go_wp2_with fail
    refine (HIN.out _).mono ?_
    rintro e w2 ⟨rfl, rfl⟩
    go_wp2
    go_ret
    refine ⟨?_, hF1'.alloc _⟩
    first | rfl | simp [HV.out] | (rw [HV.out]; rfl)
  have d1 : decide (1 ≤ nb.size) = true := decide_eq_true (by omega)
  by_cases c2 : 16 < nb.size
  · have d2 : decide (nb.size ≤ 16) = false := decide_eq_false (by omega)
    have HIN := Lib.hid (fun W => isName_of (b := false) nb W (by simp [d2]))
    rw [if_pos ⟨rfl, .inr (by omega)⟩] at hR
    have HV := Lib.hid hR.symm
    clear hR
    go_enter Tryd.func42, Tryd.ntmps42
    go_wp2_with fail
    refine (wShape5 _).mono ?_
    rintro e w1 ⟨rfl, hF1⟩
    have hF1' : Fr No w w1 := ((Fr.refl No w).alloc _).then_ hF1
    obtain ⟨y0, y1, y2, y3, y4, yf⟩ := Bk.five (Bk.fr (S := No) HBX.out hF1 id)
    obtain ⟨z0, z1, z2, z3, z4, zf⟩ := Bk.five (Bk.alloc (Bk.fr (S := No) HBX.out hF1 id) (.cells #[.bool true, .bool true, .bool true, .bool false, .bool false] 71 (0, 0)))
    go_wp2_with fail
    refine (HIN.out _).mono ?_
    rintro e w2 ⟨rfl, rfl⟩
    go_wp2
    go_ret
    refine ⟨?_, hF1'.alloc _⟩
    first | rfl | simp [HV.out] | (rw [HV.out]; rfl)
  have d2 : decide (nb.size ≤ 16) = true := decide_eq_true (by omega)
  have HIN := Lib.hid (fun W => isName_of (b := true) nb W (by simp [d1, d2]))
  rw [if_neg (fun q => by rcases q.2 with q | q <;> omega)] at hR
  by_cases c3 : tb.size < 1
  · have d3 : decide (1 ≤ tb.size) = false := decide_eq_false (by omega)
    have HIT := Lib.hid (fun W => isName_of (b := false) tb W (by simp [d3]))
    rw [if_pos (.inl ⟨rfl, .inl (by omega)⟩)] at hR
    have HV := Lib.hid hR.symm
    clear hR
    go_enter Tryd.func42, Tryd.ntmps42
    go_wp2_with fail
    refine (wShape5 _).mono ?_
    rintro e w1 ⟨rfl, hF1⟩
    have hF1' : Fr No w w1 := ((Fr.refl No w).alloc _).then_ hF1
    obtain ⟨y0, y1, y2, y3, y4, yf⟩ := Bk.five (Bk.fr (S := No) HBX.out hF1 id)
    obtain ⟨z0, z1, z2, z3, z4, zf⟩ := Bk.five (Bk.alloc (Bk.fr (S := No) HBX.out hF1 id) (.cells #[.bool true, .bool true, .bool true, .bool false, .bool false] 71 (0, 0)))
    go_wp2_with fail
    refine (HIN.out _).mono ?_
    rintro e w2 ⟨rfl, rfl⟩
    go_wp2_with fail
    refine (HIT.out _).mono ?_
    rintro e w2 ⟨rfl, rfl⟩
    go_wp2
    go_ret
    refine ⟨?_, hF1'.alloc _⟩
    first | rfl | simp [HV.out] | (rw [HV.out]; rfl)
  have d3 : decide (1 ≤ tb.size) = true := decide_eq_true (by omega)
  by_cases c4 : 16 < tb.size
  · have d4 : decide (tb.size ≤ 16) = false := decide_eq_false (by omega)
    have HIT := Lib.hid (fun W => isName_of (b := false) tb W (by simp [d4]))
    rw [if_pos (.inl ⟨rfl, .inr (by omega)⟩)] at hR
    have HV := Lib.hid hR.symm
    clear hR
    go_enter Tryd.func42, Tryd.ntmps42
    go_wp2_with fail
    refine (wShape5 _).mono ?_
    rintro e w1 ⟨rfl, hF1⟩
    have hF1' : Fr No w w1 := ((Fr.refl No w).alloc _).then_ hF1
    obtain ⟨y0, y1, y2, y3, y4, yf⟩ := Bk.five (Bk.fr (S := No) HBX.out hF1 id)
    obtain ⟨z0, z1, z2, z3, z4, zf⟩ := Bk.five (Bk.alloc (Bk.fr (S := No) HBX.out hF1 id) (.cells #[.bool true, .bool true, .bool true, .bool false, .bool false] 71 (0, 0)))
    go_wp2_with fail
    refine (HIN.out _).mono ?_
    rintro e w2 ⟨rfl, rfl⟩
    go_wp2_with fail
    refine (HIT.out _).mono ?_
    rintro e w2 ⟨rfl, rfl⟩
    go_wp2
    go_ret
    refine ⟨?_, hF1'.alloc _⟩
    first | rfl | simp [HV.out] | (rw [HV.out]; rfl)
  have d4 : decide (tb.size ≤ 16) = true := decide_eq_true (by omega)
  have HIT := Lib.hid (fun W => isName_of (b := true) tb W (by simp [d3, d4]))
  have d5 : decide ((64 : Int) < (tb.size : Int)) = false := decide_eq_false (by omega)
  have d5' : decide (64 < tb.size) = false := decide_eq_false (by omega)
  rw [if_neg (fun q => by rcases q with ⟨_, q | q⟩ | ⟨q, _⟩; omega; omega; exact absurd q (by decide))] at hR
  rw [if_neg (fun q => by cases q.1)] at hR
  rw [if_neg (fun q => absurd q.1 (by decide))] at hR
  by_cases c11 : num ≠ 0
  · have x5 : (num != 0) = true := bne_iff_ne.2 c11
    rw [if_pos (.inr (.inr (.inl ⟨rfl, c11⟩)))] at hR
    have HV := Lib.hid hR.symm
    clear hR
    go_enter Tryd.func42, Tryd.ntmps42
    go_wp2_with fail
    refine (wShape5 _).mono ?_
    rintro e w1 ⟨rfl, hF1⟩
    have hF1' : Fr No w w1 := ((Fr.refl No w).alloc _).then_ hF1
    obtain ⟨y0, y1, y2, y3, y4, yf⟩ := Bk.five (Bk.fr (S := No) HBX.out hF1 id)
    obtain ⟨z0, z1, z2, z3, z4, zf⟩ := Bk.five (Bk.alloc (Bk.fr (S := No) HBX.out hF1 id) (.cells #[.bool true, .bool true, .bool true, .bool false, .bool false] 71 (0, 0)))
    go_wp2_with fail
    refine (HIN.out _).mono ?_
    rintro e w2 ⟨rfl, rfl⟩
    go_wp2_with fail
    refine (HIT.out _).mono ?_
    rintro e w2 ⟨rfl, rfl⟩
    go_wp2
    go_ret
    refine ⟨?_, hF1'.alloc _⟩
    first | rfl | simp [HV.out] | (rw [HV.out]; rfl)
  have c11 : num = 0 := Decidable.not_not.1 c11
  subst c11
  by_cases c12 : most ≠ 0
  · have x6 : (most != 0) = true := bne_iff_ne.2 c12
    rw [if_pos (.inr (.inr (.inr ⟨by decide, c12⟩)))] at hR
    have HV := Lib.hid hR.symm
    clear hR
    go_enter Tryd.func42, Tryd.ntmps42
    go_wp2_with fail
    refine (wShape5 _).mono ?_
    rintro e w1 ⟨rfl, hF1⟩
    have hF1' : Fr No w w1 := ((Fr.refl No w).alloc _).then_ hF1
    obtain ⟨y0, y1, y2, y3, y4, yf⟩ := Bk.five (Bk.fr (S := No) HBX.out hF1 id)
    obtain ⟨z0, z1, z2, z3, z4, zf⟩ := Bk.five (Bk.alloc (Bk.fr (S := No) HBX.out hF1 id) (.cells #[.bool true, .bool true, .bool true, .bool false, .bool false] 71 (0, 0)))
    go_wp2_with fail
    refine (HIN.out _).mono ?_
    rintro e w2 ⟨rfl, rfl⟩
    go_wp2_with fail
    refine (HIT.out _).mono ?_
    rintro e w2 ⟨rfl, rfl⟩
    go_wp2
    go_ret
    refine ⟨?_, hF1'.alloc _⟩
    first | rfl | simp [HV.out] | (rw [HV.out]; rfl)
  have c12 : most = 0 := Decidable.not_not.1 c12
  subst c12
  rw [if_neg (by simp)] at hR
  have HV := Lib.hid hR.symm
  clear hR
  go_enter Tryd.func42, Tryd.ntmps42
  go_wp2_with fail
  refine (wShape5 _).mono ?_
  rintro e w1 ⟨rfl, hF1⟩
  have hF1' : Fr No w w1 := ((Fr.refl No w).alloc _).then_ hF1
  obtain ⟨y0, y1, y2, y3, y4, yf⟩ := Bk.five (Bk.fr (S := No) HBX.out hF1 id)
  obtain ⟨z0, z1, z2, z3, z4, zf⟩ := Bk.five (Bk.alloc (Bk.fr (S := No) HBX.out hF1 id) (.cells #[.bool true, .bool true, .bool true, .bool false, .bool false] 71 (0, 0)))
  go_wp2_with fail
  refine (HIN.out _).mono ?_
  rintro e w2 ⟨rfl, rfl⟩
  go_wp2_with fail
  refine (HIT.out _).mono ?_
  rintro e w2 ⟨rfl, rfl⟩
  go_wp2
  go_ret
  refine ⟨?_, hF1'.alloc _⟩
  first | rfl | simp [HV.out] | (rw [HV.out]; rfl)
set_option maxHeartbeats 8000000 in
set_option maxRecDepth 100000 in
theorem wCheck6 (o : OV) (hk : o.kind = 6) (w : World) : Calls Tryd.prog 42 #[o.v] w fun e w' => e = .returned (.int .i64 (chkO o)) ∧ Fr No w w' := by
  obtain ⟨kind, name, text, num, most⟩ := o
  dsimp only at hk
  subst hk
  unfold OV.v sv
  dsimp only
  obtain ⟨R, hR⟩ : ∃ R, chkO ⟨6, name, text, num, most⟩ = R := ⟨_, rfl⟩
  rw [hR]
  unfold chkO at hR
  dsimp only at hR
  rw [if_neg (show ¬ ((6 : Int) < 1 ∨ 8 < (6 : Int)) by decide)] at hR
  rw [show hasN 6 = true by decide, show hasT 6 = false by decide, show hasK 6 = true by decide] at hR
  obtain ⟨nb, hnb⟩ : ∃ p : ByteArray, (⟨name.toArray⟩ : ByteArray) = p := ⟨_, rfl⟩
  obtain ⟨tb, htb⟩ : ∃ p : ByteArray, (⟨text.toArray⟩ : ByteArray) = p := ⟨_, rfl⟩
  have hns := sv_size hnb
  have hts := sv_size htb
  rw [hnb, htb]
  have HBX := Lib.hid (Bk.new w 44 [.int .i64 6, .string nb, .string tb, .int .i64 num, .int .i64 most])
  have HIS := Lib.hid (fun s W => wIsName s W)
  by_cases c1 : nb.size < 1
  · have d1 : decide (1 ≤ nb.size) = false := decide_eq_false (by omega)
    rw [if_pos ⟨rfl, .inl (by omega)⟩] at hR
    have HV := Lib.hid hR.symm
    have HIN := Lib.hid (fun W => isName_of (b := false) nb W (by simp [d1]))
    clear hR
    go_enter Tryd.func42, Tryd.ntmps42
    go_wp2_with fail
    refine (wShape6 _).mono ?_
    rintro e w1 ⟨rfl, hF1⟩
    have hF1' : Fr No w w1 := ((Fr.refl No w).alloc _).then_ hF1
    obtain ⟨y0, y1, y2, y3, y4, yf⟩ := Bk.five (Bk.fr (S := No) HBX.out hF1 id)
    obtain ⟨z0, z1, z2, z3, z4, zf⟩ := Bk.five (Bk.alloc (Bk.fr (S := No) HBX.out hF1 id) (.cells #[.bool true, .bool false, .bool false, .bool true, .bool true] 71 (0, 0)))
    go_wp2_with fail
    refine (HIN.out _).mono ?_
    rintro e w2 ⟨rfl, rfl⟩
    go_wp2
    go_ret
    refine ⟨?_, hF1'.alloc _⟩
    first | rfl | simp [HV.out] | (rw [HV.out]; rfl)
  have d1 : decide (1 ≤ nb.size) = true := decide_eq_true (by omega)
  by_cases c2 : 16 < nb.size
  · have d2 : decide (nb.size ≤ 16) = false := decide_eq_false (by omega)
    have HIN := Lib.hid (fun W => isName_of (b := false) nb W (by simp [d2]))
    rw [if_pos ⟨rfl, .inr (by omega)⟩] at hR
    have HV := Lib.hid hR.symm
    clear hR
    go_enter Tryd.func42, Tryd.ntmps42
    go_wp2_with fail
    refine (wShape6 _).mono ?_
    rintro e w1 ⟨rfl, hF1⟩
    have hF1' : Fr No w w1 := ((Fr.refl No w).alloc _).then_ hF1
    obtain ⟨y0, y1, y2, y3, y4, yf⟩ := Bk.five (Bk.fr (S := No) HBX.out hF1 id)
    obtain ⟨z0, z1, z2, z3, z4, zf⟩ := Bk.five (Bk.alloc (Bk.fr (S := No) HBX.out hF1 id) (.cells #[.bool true, .bool false, .bool false, .bool true, .bool true] 71 (0, 0)))
    go_wp2_with fail
    refine (HIN.out _).mono ?_
    rintro e w2 ⟨rfl, rfl⟩
    go_wp2
    go_ret
    refine ⟨?_, hF1'.alloc _⟩
    first | rfl | simp [HV.out] | (rw [HV.out]; rfl)
  have d2 : decide (nb.size ≤ 16) = true := decide_eq_true (by omega)
  have HIN := Lib.hid (fun W => isName_of (b := true) nb W (by simp [d1, d2]))
  rw [if_neg (fun q => by rcases q.2 with q | q <;> omega)] at hR
  rw [if_neg (fun q => by rcases q with ⟨q, _⟩ | ⟨q, _⟩ <;> exact absurd q (by decide))] at hR
  by_cases c5 : num < 0
  · have d6 : decide (num < 0) = true := decide_eq_true c5
    rw [if_pos ⟨rfl, .inl c5⟩] at hR
    have HV := Lib.hid hR.symm
    clear hR
    go_enter Tryd.func42, Tryd.ntmps42
    go_wp2_with fail
    refine (wShape6 _).mono ?_
    rintro e w1 ⟨rfl, hF1⟩
    have hF1' : Fr No w w1 := ((Fr.refl No w).alloc _).then_ hF1
    obtain ⟨y0, y1, y2, y3, y4, yf⟩ := Bk.five (Bk.fr (S := No) HBX.out hF1 id)
    obtain ⟨z0, z1, z2, z3, z4, zf⟩ := Bk.five (Bk.alloc (Bk.fr (S := No) HBX.out hF1 id) (.cells #[.bool true, .bool false, .bool false, .bool true, .bool true] 71 (0, 0)))
    go_wp2_with fail
    refine (HIN.out _).mono ?_
    rintro e w2 ⟨rfl, rfl⟩
    go_wp2
    go_ret
    refine ⟨?_, hF1'.alloc _⟩
    first | rfl | simp [HV.out] | (rw [HV.out]; rfl)
  have d6 : decide (num < 0) = false := decide_eq_false c5
  by_cases c6 : 1099511627776 < num
  · have d7 : decide (1099511627776 < num) = true := decide_eq_true c6
    rw [if_pos ⟨rfl, .inr c6⟩] at hR
    have HV := Lib.hid hR.symm
    clear hR
    go_enter Tryd.func42, Tryd.ntmps42
    go_wp2_with fail
    refine (wShape6 _).mono ?_
    rintro e w1 ⟨rfl, hF1⟩
    have hF1' : Fr No w w1 := ((Fr.refl No w).alloc _).then_ hF1
    obtain ⟨y0, y1, y2, y3, y4, yf⟩ := Bk.five (Bk.fr (S := No) HBX.out hF1 id)
    obtain ⟨z0, z1, z2, z3, z4, zf⟩ := Bk.five (Bk.alloc (Bk.fr (S := No) HBX.out hF1 id) (.cells #[.bool true, .bool false, .bool false, .bool true, .bool true] 71 (0, 0)))
    go_wp2_with fail
    refine (HIN.out _).mono ?_
    rintro e w2 ⟨rfl, rfl⟩
    go_wp2
    go_ret
    refine ⟨?_, hF1'.alloc _⟩
    first | rfl | simp [HV.out] | (rw [HV.out]; rfl)
  have d7 : decide (1099511627776 < num) = false := decide_eq_false c6
  rw [if_neg (fun q => by rcases q.2 with q | q; exact c5 q; exact c6 q)] at hR
  by_cases c7 : most < 1
  · have d8 : decide (most < 1) = true := decide_eq_true c7
    rw [if_pos ⟨rfl, .inl c7⟩] at hR
    have HV := Lib.hid hR.symm
    clear hR
    go_enter Tryd.func42, Tryd.ntmps42
    go_wp2_with fail
    refine (wShape6 _).mono ?_
    rintro e w1 ⟨rfl, hF1⟩
    have hF1' : Fr No w w1 := ((Fr.refl No w).alloc _).then_ hF1
    obtain ⟨y0, y1, y2, y3, y4, yf⟩ := Bk.five (Bk.fr (S := No) HBX.out hF1 id)
    obtain ⟨z0, z1, z2, z3, z4, zf⟩ := Bk.five (Bk.alloc (Bk.fr (S := No) HBX.out hF1 id) (.cells #[.bool true, .bool false, .bool false, .bool true, .bool true] 71 (0, 0)))
    go_wp2_with fail
    refine (HIN.out _).mono ?_
    rintro e w2 ⟨rfl, rfl⟩
    go_wp2
    go_ret
    refine ⟨?_, hF1'.alloc _⟩
    first | rfl | simp [HV.out] | (rw [HV.out]; rfl)
  have d8 : decide (most < 1) = false := decide_eq_false c7
  by_cases c8 : 8 < most
  · have d9 : decide (8 < most) = true := decide_eq_true c8
    rw [if_pos ⟨rfl, .inr c8⟩] at hR
    have HV := Lib.hid hR.symm
    clear hR
    go_enter Tryd.func42, Tryd.ntmps42
    go_wp2_with fail
    refine (wShape6 _).mono ?_
    rintro e w1 ⟨rfl, hF1⟩
    have hF1' : Fr No w w1 := ((Fr.refl No w).alloc _).then_ hF1
    obtain ⟨y0, y1, y2, y3, y4, yf⟩ := Bk.five (Bk.fr (S := No) HBX.out hF1 id)
    obtain ⟨z0, z1, z2, z3, z4, zf⟩ := Bk.five (Bk.alloc (Bk.fr (S := No) HBX.out hF1 id) (.cells #[.bool true, .bool false, .bool false, .bool true, .bool true] 71 (0, 0)))
    go_wp2_with fail
    refine (HIN.out _).mono ?_
    rintro e w2 ⟨rfl, rfl⟩
    go_wp2
    go_ret
    refine ⟨?_, hF1'.alloc _⟩
    first | rfl | simp [HV.out] | (rw [HV.out]; rfl)
  have d9 : decide (8 < most) = false := decide_eq_false c8
  rw [if_neg (fun q => by rcases q.2 with q | q; exact c7 q; exact c8 q)] at hR
  by_cases c10 : text ≠ []
  · obtain ⟨x1, x2, x3, x4⟩ := empty_no htb c10
    rw [if_pos (.inr (.inl ⟨rfl, c10⟩))] at hR
    have HV := Lib.hid hR.symm
    clear hR
    go_enter Tryd.func42, Tryd.ntmps42
    go_wp2_with fail
    refine (wShape6 _).mono ?_
    rintro e w1 ⟨rfl, hF1⟩
    have hF1' : Fr No w w1 := ((Fr.refl No w).alloc _).then_ hF1
    obtain ⟨y0, y1, y2, y3, y4, yf⟩ := Bk.five (Bk.fr (S := No) HBX.out hF1 id)
    obtain ⟨z0, z1, z2, z3, z4, zf⟩ := Bk.five (Bk.alloc (Bk.fr (S := No) HBX.out hF1 id) (.cells #[.bool true, .bool false, .bool false, .bool true, .bool true] 71 (0, 0)))
    go_wp2_with fail
    refine (HIN.out _).mono ?_
    rintro e w2 ⟨rfl, rfl⟩
    go_wp2
    go_ret
    refine ⟨?_, hF1'.alloc _⟩
    first | rfl | simp [HV.out] | (rw [HV.out]; rfl)
  have c10 : text = [] := Decidable.not_not.1 c10
  subst c10
  obtain rfl : tb = ⟨#[]⟩ := htb.symm
  rw [if_neg (by simp)] at hR
  have HV := Lib.hid hR.symm
  clear hR
  go_enter Tryd.func42, Tryd.ntmps42
  go_wp2_with fail
  refine (wShape6 _).mono ?_
  rintro e w1 ⟨rfl, hF1⟩
  have hF1' : Fr No w w1 := ((Fr.refl No w).alloc _).then_ hF1
  obtain ⟨y0, y1, y2, y3, y4, yf⟩ := Bk.five (Bk.fr (S := No) HBX.out hF1 id)
  obtain ⟨z0, z1, z2, z3, z4, zf⟩ := Bk.five (Bk.alloc (Bk.fr (S := No) HBX.out hF1 id) (.cells #[.bool true, .bool false, .bool false, .bool true, .bool true] 71 (0, 0)))
  go_wp2_with fail
  refine (HIN.out _).mono ?_
  rintro e w2 ⟨rfl, rfl⟩
  go_wp2
  go_ret
  refine ⟨?_, hF1'.alloc _⟩
  first | rfl | simp [HV.out] | (rw [HV.out]; rfl)
set_option maxHeartbeats 8000000 in
set_option maxRecDepth 100000 in
theorem wCheck7 (o : OV) (hk : o.kind = 7) (w : World) : Calls Tryd.prog 42 #[o.v] w fun e w' => e = .returned (.int .i64 (chkO o)) ∧ Fr No w w' := by
  obtain ⟨kind, name, text, num, most⟩ := o
  dsimp only at hk
  subst hk
  unfold OV.v sv
  dsimp only
  obtain ⟨R, hR⟩ : ∃ R, chkO ⟨7, name, text, num, most⟩ = R := ⟨_, rfl⟩
  rw [hR]
  unfold chkO at hR
  dsimp only at hR
  rw [if_neg (show ¬ ((7 : Int) < 1 ∨ 8 < (7 : Int)) by decide)] at hR
  rw [show hasN 7 = true by decide, show hasT 7 = false by decide, show hasK 7 = false by decide] at hR
  obtain ⟨nb, hnb⟩ : ∃ p : ByteArray, (⟨name.toArray⟩ : ByteArray) = p := ⟨_, rfl⟩
  obtain ⟨tb, htb⟩ : ∃ p : ByteArray, (⟨text.toArray⟩ : ByteArray) = p := ⟨_, rfl⟩
  have hns := sv_size hnb
  have hts := sv_size htb
  rw [hnb, htb]
  have HBX := Lib.hid (Bk.new w 44 [.int .i64 7, .string nb, .string tb, .int .i64 num, .int .i64 most])
  have HIS := Lib.hid (fun s W => wIsName s W)
  by_cases c1 : nb.size < 1
  · have d1 : decide (1 ≤ nb.size) = false := decide_eq_false (by omega)
    rw [if_pos ⟨rfl, .inl (by omega)⟩] at hR
    have HV := Lib.hid hR.symm
    have HIN := Lib.hid (fun W => isName_of (b := false) nb W (by simp [d1]))
    clear hR
    go_enter Tryd.func42, Tryd.ntmps42
    go_wp2_with fail
    refine (wShape7 _).mono ?_
    rintro e w1 ⟨rfl, hF1⟩
    have hF1' : Fr No w w1 := ((Fr.refl No w).alloc _).then_ hF1
    obtain ⟨y0, y1, y2, y3, y4, yf⟩ := Bk.five (Bk.fr (S := No) HBX.out hF1 id)
    obtain ⟨z0, z1, z2, z3, z4, zf⟩ := Bk.five (Bk.alloc (Bk.fr (S := No) HBX.out hF1 id) (.cells #[.bool true, .bool false, .bool false, .bool false, .bool false] 71 (0, 0)))
    go_wp2_with fail
    refine (HIN.out _).mono ?_
    rintro e w2 ⟨rfl, rfl⟩
    go_wp2
    go_ret
    refine ⟨?_, hF1'.alloc _⟩
    first | rfl | simp [HV.out] | (rw [HV.out]; rfl)
  have d1 : decide (1 ≤ nb.size) = true := decide_eq_true (by omega)
  by_cases c2 : 16 < nb.size
  · have d2 : decide (nb.size ≤ 16) = false := decide_eq_false (by omega)
    have HIN := Lib.hid (fun W => isName_of (b := false) nb W (by simp [d2]))
    rw [if_pos ⟨rfl, .inr (by omega)⟩] at hR
    have HV := Lib.hid hR.symm
    clear hR
    go_enter Tryd.func42, Tryd.ntmps42
    go_wp2_with fail
    refine (wShape7 _).mono ?_
    rintro e w1 ⟨rfl, hF1⟩
    have hF1' : Fr No w w1 := ((Fr.refl No w).alloc _).then_ hF1
    obtain ⟨y0, y1, y2, y3, y4, yf⟩ := Bk.five (Bk.fr (S := No) HBX.out hF1 id)
    obtain ⟨z0, z1, z2, z3, z4, zf⟩ := Bk.five (Bk.alloc (Bk.fr (S := No) HBX.out hF1 id) (.cells #[.bool true, .bool false, .bool false, .bool false, .bool false] 71 (0, 0)))
    go_wp2_with fail
    refine (HIN.out _).mono ?_
    rintro e w2 ⟨rfl, rfl⟩
    go_wp2
    go_ret
    refine ⟨?_, hF1'.alloc _⟩
    first | rfl | simp [HV.out] | (rw [HV.out]; rfl)
  have d2 : decide (nb.size ≤ 16) = true := decide_eq_true (by omega)
  have HIN := Lib.hid (fun W => isName_of (b := true) nb W (by simp [d1, d2]))
  rw [if_neg (fun q => by rcases q.2 with q | q <;> omega)] at hR
  rw [if_neg (fun q => by rcases q with ⟨q, _⟩ | ⟨q, _⟩ <;> exact absurd q (by decide))] at hR
  rw [if_neg (fun q => by cases q.1)] at hR
  rw [if_neg (fun q => absurd q.1 (by decide))] at hR
  by_cases c10 : text ≠ []
  · obtain ⟨x1, x2, x3, x4⟩ := empty_no htb c10
    rw [if_pos (.inr (.inl ⟨rfl, c10⟩))] at hR
    have HV := Lib.hid hR.symm
    clear hR
    go_enter Tryd.func42, Tryd.ntmps42
    go_wp2_with fail
    refine (wShape7 _).mono ?_
    rintro e w1 ⟨rfl, hF1⟩
    have hF1' : Fr No w w1 := ((Fr.refl No w).alloc _).then_ hF1
    obtain ⟨y0, y1, y2, y3, y4, yf⟩ := Bk.five (Bk.fr (S := No) HBX.out hF1 id)
    obtain ⟨z0, z1, z2, z3, z4, zf⟩ := Bk.five (Bk.alloc (Bk.fr (S := No) HBX.out hF1 id) (.cells #[.bool true, .bool false, .bool false, .bool false, .bool false] 71 (0, 0)))
    go_wp2_with fail
    refine (HIN.out _).mono ?_
    rintro e w2 ⟨rfl, rfl⟩
    go_wp2
    go_ret
    refine ⟨?_, hF1'.alloc _⟩
    first | rfl | simp [HV.out] | (rw [HV.out]; rfl)
  have c10 : text = [] := Decidable.not_not.1 c10
  subst c10
  obtain rfl : tb = ⟨#[]⟩ := htb.symm
  by_cases c11 : num ≠ 0
  · have x5 : (num != 0) = true := bne_iff_ne.2 c11
    rw [if_pos (.inr (.inr (.inl ⟨rfl, c11⟩)))] at hR
    have HV := Lib.hid hR.symm
    clear hR
    go_enter Tryd.func42, Tryd.ntmps42
    go_wp2_with fail
    refine (wShape7 _).mono ?_
    rintro e w1 ⟨rfl, hF1⟩
    have hF1' : Fr No w w1 := ((Fr.refl No w).alloc _).then_ hF1
    obtain ⟨y0, y1, y2, y3, y4, yf⟩ := Bk.five (Bk.fr (S := No) HBX.out hF1 id)
    obtain ⟨z0, z1, z2, z3, z4, zf⟩ := Bk.five (Bk.alloc (Bk.fr (S := No) HBX.out hF1 id) (.cells #[.bool true, .bool false, .bool false, .bool false, .bool false] 71 (0, 0)))
    go_wp2_with fail
    refine (HIN.out _).mono ?_
    rintro e w2 ⟨rfl, rfl⟩
    go_wp2
    go_ret
    refine ⟨?_, hF1'.alloc _⟩
    first | rfl | simp [HV.out] | (rw [HV.out]; rfl)
  have c11 : num = 0 := Decidable.not_not.1 c11
  subst c11
  by_cases c12 : most ≠ 0
  · have x6 : (most != 0) = true := bne_iff_ne.2 c12
    rw [if_pos (.inr (.inr (.inr ⟨by decide, c12⟩)))] at hR
    have HV := Lib.hid hR.symm
    clear hR
    go_enter Tryd.func42, Tryd.ntmps42
    go_wp2_with fail
    refine (wShape7 _).mono ?_
    rintro e w1 ⟨rfl, hF1⟩
    have hF1' : Fr No w w1 := ((Fr.refl No w).alloc _).then_ hF1
    obtain ⟨y0, y1, y2, y3, y4, yf⟩ := Bk.five (Bk.fr (S := No) HBX.out hF1 id)
    obtain ⟨z0, z1, z2, z3, z4, zf⟩ := Bk.five (Bk.alloc (Bk.fr (S := No) HBX.out hF1 id) (.cells #[.bool true, .bool false, .bool false, .bool false, .bool false] 71 (0, 0)))
    go_wp2_with fail
    refine (HIN.out _).mono ?_
    rintro e w2 ⟨rfl, rfl⟩
    go_wp2
    go_ret
    refine ⟨?_, hF1'.alloc _⟩
    first | rfl | simp [HV.out] | (rw [HV.out]; rfl)
  have c12 : most = 0 := Decidable.not_not.1 c12
  subst c12
  rw [if_neg (by simp)] at hR
  have HV := Lib.hid hR.symm
  clear hR
  go_enter Tryd.func42, Tryd.ntmps42
  go_wp2_with fail
  refine (wShape7 _).mono ?_
  rintro e w1 ⟨rfl, hF1⟩
  have hF1' : Fr No w w1 := ((Fr.refl No w).alloc _).then_ hF1
  obtain ⟨y0, y1, y2, y3, y4, yf⟩ := Bk.five (Bk.fr (S := No) HBX.out hF1 id)
  obtain ⟨z0, z1, z2, z3, z4, zf⟩ := Bk.five (Bk.alloc (Bk.fr (S := No) HBX.out hF1 id) (.cells #[.bool true, .bool false, .bool false, .bool false, .bool false] 71 (0, 0)))
  go_wp2_with fail
  refine (HIN.out _).mono ?_
  rintro e w2 ⟨rfl, rfl⟩
  go_wp2
  go_ret
  refine ⟨?_, hF1'.alloc _⟩
  first | rfl | simp [HV.out] | (rw [HV.out]; rfl)
set_option maxHeartbeats 8000000 in
set_option maxRecDepth 100000 in
theorem wCheck8 (o : OV) (hk : o.kind = 8) (w : World) : Calls Tryd.prog 42 #[o.v] w fun e w' => e = .returned (.int .i64 (chkO o)) ∧ Fr No w w' := by
  obtain ⟨kind, name, text, num, most⟩ := o
  dsimp only at hk
  subst hk
  unfold OV.v sv
  dsimp only
  obtain ⟨R, hR⟩ : ∃ R, chkO ⟨8, name, text, num, most⟩ = R := ⟨_, rfl⟩
  rw [hR]
  unfold chkO at hR
  dsimp only at hR
  rw [if_neg (show ¬ ((8 : Int) < 1 ∨ 8 < (8 : Int)) by decide)] at hR
  rw [show hasN 8 = false by decide, show hasT 8 = false by decide, show hasK 8 = false by decide] at hR
  obtain ⟨nb, hnb⟩ : ∃ p : ByteArray, (⟨name.toArray⟩ : ByteArray) = p := ⟨_, rfl⟩
  obtain ⟨tb, htb⟩ : ∃ p : ByteArray, (⟨text.toArray⟩ : ByteArray) = p := ⟨_, rfl⟩
  have hns := sv_size hnb
  have hts := sv_size htb
  rw [hnb, htb]
  have HBX := Lib.hid (Bk.new w 44 [.int .i64 8, .string nb, .string tb, .int .i64 num, .int .i64 most])
  have HIS := Lib.hid (fun s W => wIsName s W)
  rw [if_neg (fun q => by cases q.1)] at hR
  rw [if_neg (fun q => by rcases q with ⟨q, _⟩ | ⟨q, _⟩ <;> exact absurd q (by decide))] at hR
  rw [if_neg (fun q => by cases q.1)] at hR
  rw [if_neg (fun q => absurd q.1 (by decide))] at hR
  by_cases c9 : name ≠ []
  · obtain ⟨x1, x2, x3, x4⟩ := empty_no hnb c9
    rw [if_pos (.inl ⟨rfl, c9⟩)] at hR
    have HV := Lib.hid hR.symm
    clear hR
    go_enter Tryd.func42, Tryd.ntmps42
    go_wp2_with fail
    refine (wShape8 _).mono ?_
    rintro e w1 ⟨rfl, hF1⟩
    have hF1' : Fr No w w1 := ((Fr.refl No w).alloc _).then_ hF1
    obtain ⟨y0, y1, y2, y3, y4, yf⟩ := Bk.five (Bk.fr (S := No) HBX.out hF1 id)
    obtain ⟨z0, z1, z2, z3, z4, zf⟩ := Bk.five (Bk.alloc (Bk.fr (S := No) HBX.out hF1 id) (.cells #[.bool false, .bool false, .bool false, .bool false, .bool false] 71 (0, 0)))
    go_wp2
    go_ret
    refine ⟨?_, hF1'.alloc _⟩
    first | rfl | simp [HV.out] | (rw [HV.out]; rfl)
  have c9 : name = [] := Decidable.not_not.1 c9
  subst c9
  obtain rfl : nb = ⟨#[]⟩ := hnb.symm
  by_cases c10 : text ≠ []
  · obtain ⟨x1, x2, x3, x4⟩ := empty_no htb c10
    rw [if_pos (.inr (.inl ⟨rfl, c10⟩))] at hR
    have HV := Lib.hid hR.symm
    clear hR
    go_enter Tryd.func42, Tryd.ntmps42
    go_wp2_with fail
    refine (wShape8 _).mono ?_
    rintro e w1 ⟨rfl, hF1⟩
    have hF1' : Fr No w w1 := ((Fr.refl No w).alloc _).then_ hF1
    obtain ⟨y0, y1, y2, y3, y4, yf⟩ := Bk.five (Bk.fr (S := No) HBX.out hF1 id)
    obtain ⟨z0, z1, z2, z3, z4, zf⟩ := Bk.five (Bk.alloc (Bk.fr (S := No) HBX.out hF1 id) (.cells #[.bool false, .bool false, .bool false, .bool false, .bool false] 71 (0, 0)))
    go_wp2
    go_ret
    refine ⟨?_, hF1'.alloc _⟩
    first | rfl | simp [HV.out] | (rw [HV.out]; rfl)
  have c10 : text = [] := Decidable.not_not.1 c10
  subst c10
  obtain rfl : tb = ⟨#[]⟩ := htb.symm
  by_cases c11 : num ≠ 0
  · have x5 : (num != 0) = true := bne_iff_ne.2 c11
    rw [if_pos (.inr (.inr (.inl ⟨rfl, c11⟩)))] at hR
    have HV := Lib.hid hR.symm
    clear hR
    go_enter Tryd.func42, Tryd.ntmps42
    go_wp2_with fail
    refine (wShape8 _).mono ?_
    rintro e w1 ⟨rfl, hF1⟩
    have hF1' : Fr No w w1 := ((Fr.refl No w).alloc _).then_ hF1
    obtain ⟨y0, y1, y2, y3, y4, yf⟩ := Bk.five (Bk.fr (S := No) HBX.out hF1 id)
    obtain ⟨z0, z1, z2, z3, z4, zf⟩ := Bk.five (Bk.alloc (Bk.fr (S := No) HBX.out hF1 id) (.cells #[.bool false, .bool false, .bool false, .bool false, .bool false] 71 (0, 0)))
    go_wp2
    go_ret
    refine ⟨?_, hF1'.alloc _⟩
    first | rfl | simp [HV.out] | (rw [HV.out]; rfl)
  have c11 : num = 0 := Decidable.not_not.1 c11
  subst c11
  by_cases c12 : most ≠ 0
  · have x6 : (most != 0) = true := bne_iff_ne.2 c12
    rw [if_pos (.inr (.inr (.inr ⟨by decide, c12⟩)))] at hR
    have HV := Lib.hid hR.symm
    clear hR
    go_enter Tryd.func42, Tryd.ntmps42
    go_wp2_with fail
    refine (wShape8 _).mono ?_
    rintro e w1 ⟨rfl, hF1⟩
    have hF1' : Fr No w w1 := ((Fr.refl No w).alloc _).then_ hF1
    obtain ⟨y0, y1, y2, y3, y4, yf⟩ := Bk.five (Bk.fr (S := No) HBX.out hF1 id)
    obtain ⟨z0, z1, z2, z3, z4, zf⟩ := Bk.five (Bk.alloc (Bk.fr (S := No) HBX.out hF1 id) (.cells #[.bool false, .bool false, .bool false, .bool false, .bool false] 71 (0, 0)))
    go_wp2
    go_ret
    refine ⟨?_, hF1'.alloc _⟩
    first | rfl | simp [HV.out] | (rw [HV.out]; rfl)
  have c12 : most = 0 := Decidable.not_not.1 c12
  subst c12
  rw [if_neg (by simp)] at hR
  have HV := Lib.hid hR.symm
  clear hR
  go_enter Tryd.func42, Tryd.ntmps42
  go_wp2_with fail
  refine (wShape8 _).mono ?_
  rintro e w1 ⟨rfl, hF1⟩
  have hF1' : Fr No w w1 := ((Fr.refl No w).alloc _).then_ hF1
  obtain ⟨y0, y1, y2, y3, y4, yf⟩ := Bk.five (Bk.fr (S := No) HBX.out hF1 id)
  obtain ⟨z0, z1, z2, z3, z4, zf⟩ := Bk.five (Bk.alloc (Bk.fr (S := No) HBX.out hF1 id) (.cells #[.bool false, .bool false, .bool false, .bool false, .bool false] 71 (0, 0)))
  go_wp2
  go_ret
  refine ⟨?_, hF1'.alloc _⟩
  first | rfl | simp [HV.out] | (rw [HV.out]; rfl)
end Go.Proofs.YtdhlbdllidfenaaDoor.Wd
