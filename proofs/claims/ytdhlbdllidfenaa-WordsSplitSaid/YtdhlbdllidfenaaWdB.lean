/- Words: the small functions, walked: bare, plain, digit, of the program and of the reference. Conditions: none. -/
import Derived.Test.YtdhlbdllidfenaaWdA
import Derived.WalkKit
import Derived.BigQuiet
import Derived.Laws.Strings
import Derived.Deep.QuietTactic
namespace Go.Proofs.Ytdhlbdllidfenaa.Wd
open Go.RowKit Go.Proofs.Ytdhlbdllidfenaa.Mem
set_option linter.unusedVariables false
set_option linter.unusedSimpArgs false
theorem ret_bool {a b : Bool} (h : a = b) : Ending.returned (.bool a) = .returned (.bool b) := by rw [h]
theorem ret_int {k : IntKind} {a b : Int} (h : a = b) : Ending.returned (.int k a) = .returned (.int k b) := by rw [h]
def bareN (n : Nat) : Bool := (decide (97 ≤ n) && decide (n ≤ 122)) || (decide (65 ≤ n) && decide (n ≤ 90)) || (decide (48 ≤ n) && decide (n ≤ 57)) || n == 45 || n == 95 || n == 46 || n == 47
def digN (n : Nat) : Int := if 48 ≤ n ∧ n ≤ 57 then (n : Int) - 48 else if 97 ≤ n ∧ n ≤ 102 then (n : Int) - 97 + 10 else -1
theorem bareN_of (n : Nat) : bareN n = decide ((97 ≤ (n : Int) ∧ (n : Int) ≤ 122) ∨ (65 ≤ (n : Int) ∧ (n : Int) ≤ 90) ∨ (48 ≤ (n : Int) ∧ (n : Int) ≤ 57) ∨ (n : Int) = 45 ∨ (n : Int) = 95 ∨ (n : Int) = 46 ∨ (n : Int) = 47) := by
  rw [Bool.eq_iff_iff]
  simp only [bareN, Bool.or_eq_true, Bool.and_eq_true, decide_eq_true_eq, beq_iff_eq]
  omega
theorem bareB_of (c : UInt8) : bareB c = decide ((97 ≤ (c.toNat : Int) ∧ (c.toNat : Int) ≤ 122) ∨ (65 ≤ (c.toNat : Int) ∧ (c.toNat : Int) ≤ 90) ∨ (48 ≤ (c.toNat : Int) ∧ (c.toNat : Int) ≤ 57) ∨ (c.toNat : Int) = 45 ∨ (c.toNat : Int) = 95 ∨ (c.toNat : Int) = 46 ∨ (c.toNat : Int) = 47) := bareN_of c.toNat
set_option maxHeartbeats 2000000 in
theorem wBare (c : UInt8) (w : World) : Calls Try.prog 26 #[.int .u8 (c.toNat : Int)] w fun e w' => e = .returned (.bool (bareB c)) ∧ w' = w := by
  have hr := bareB_of c
  have hn : c.toNat ≤ 255 := by have := c.toNat_lt; omega
  generalize bareB c = r at *
  generalize c.toNat = n at *
  have HR := Lib.hid hr
  clear hr
  go_enter Try.func26, Try.ntmps26
  go_wp2
  all_goals go_ret
  all_goals
    refine ⟨ret_bool ?_, rfl⟩
    rw [HR.out]
    first
      | exact (decide_eq_true (by omega)).symm
      | exact (decide_eq_false (by omega)).symm
      | (rw [Bool.eq_iff_iff]; simp only [Bool.or_eq_true, beq_iff_eq, decide_eq_true_eq]; omega)
set_option maxHeartbeats 2000000 in
theorem rBare (c : UInt8) (w : World) : Calls Try.prog 28 #[.int .u8 (c.toNat : Int)] w fun e w' => e = .returned (.bool (bareB c)) ∧ w' = w := by
  have hr := bareB_of c
  have hn : c.toNat ≤ 255 := by have := c.toNat_lt; omega
  generalize bareB c = r at *
  generalize c.toNat = n at *
  have HR := Lib.hid hr
  clear hr
  go_enter Try.func28, Try.ntmps28
  go_wp2
  all_goals go_ret
  all_goals
    refine ⟨ret_bool ?_, rfl⟩
    rw [HR.out]
    first
      | exact (decide_eq_true (by omega)).symm
      | exact (decide_eq_false (by omega)).symm
      | (rw [Bool.eq_iff_iff]; simp only [Bool.or_eq_true, beq_iff_eq, decide_eq_true_eq]; omega)
set_option maxHeartbeats 2000000 in
theorem wDigit (c : UInt8) (w : World) : Calls Try.prog 41 #[.int .u8 (c.toNat : Int)] w fun e w' => e = .returned (.int .i64 (digB c)) ∧ w' = w := by
  have hr : digB c = digN c.toNat := rfl
  have hn : c.toNat ≤ 255 := by have := c.toNat_lt; omega
  generalize digB c = r at *
  generalize c.toNat = n at *
  have HR := Lib.hid hr
  clear hr
  go_enter Try.func41, Try.ntmps41
  go_wp2
  all_goals go_ret
  all_goals
    refine ⟨ret_int ?_, rfl⟩
    rw [HR.out]
    unfold digN
    split
    · omega
    · split <;> omega
set_option maxHeartbeats 2000000 in
theorem rDigit (c : UInt8) (w : World) : Calls Try.prog 38 #[.int .u8 (c.toNat : Int)] w fun e w' => e = .returned (.int .i64 (digB c)) ∧ w' = w := by
  have hr : digB c = digN c.toNat := rfl
  have hn : c.toNat ≤ 255 := by have := c.toNat_lt; omega
  generalize digB c = r at *
  generalize c.toNat = n at *
  have HR := Lib.hid hr
  clear hr
  go_enter Try.func38, Try.ntmps38
  go_wp2
  all_goals go_ret
  all_goals
    refine ⟨ret_int ?_, rfl⟩
    rw [HR.out]
    unfold digN
    split
    · omega
    · split <;> omega
/-- the bytes of a text -/
def bs (s : ByteArray) : List UInt8 := s.data.toList
theorem bs_len (s : ByteArray) : (bs s).length = s.size := by unfold bs; rw [Array.length_toList]; rfl
theorem bs_get (s : ByteArray) (k : Nat) (h : k < s.size) : (bs s)[k]'(by rw [bs_len]; exact h) = s[k] := by unfold bs; rw [Array.getElem_toList]; rfl
theorem bs_mk (s : ByteArray) : (⟨(bs s).toArray⟩ : ByteArray) = s := by unfold bs; simp
theorem bs_of (l : List UInt8) : bs ⟨l.toArray⟩ = l := by unfold bs; simp
theorem bs_toList (s : ByteArray) : s.toList = bs s := ByteArray.toList_eq s
theorem all_drop {l : List UInt8} {k : Nat} (h : k < l.length) : (l.drop k).all bareB = (bareB l[k] && (l.drop (k + 1)).all bareB) := by rw [List.drop_eq_getElem_cons h, List.all_cons]
set_option maxHeartbeats 1000000 in
theorem wPlain (s : ByteArray) (hs : s.size ≤ 4611686018427387904) (w : World) : Calls Try.prog 30 #[.string s] w fun e w' => e = .returned (.bool (isBare (bs s))) ∧ Fr No w w' := by
  go_enter Try.func30, Try.ntmps30
  go_wp2
  go_loopw [6] (fun i wr => ∃ k : Nat, k ≤ s.size ∧ i = .int .i64 (k : Int) ∧ Hid (((bs s).drop k).all bareB = (bs s).all bareB) ∧ Hid (Fr No w wr)) (fun i _ => s.size - (intOf i).toNat)
  case atStart => exact ⟨0, Nat.zero_le _, rfl, by show _ = _; rw [List.drop_zero], Fr.refl _ _⟩
  case round =>
    obtain ⟨k, hk, rfl, HA, HF⟩ := hrel
    have hw : IntKind.i64.wrap ((k : Int) + 1) = (k : Int) + 1 := IntWalk.i64_in _ (by omega)
    by_cases hlt : k < s.size
    · have HB := Lib.hid (fun W => wBare s[k] W)
      have HX := Lib.hid (show ((bs s).drop k).all bareB = (bareB s[k] && ((bs s).drop (k + 1)).all bareB) by rw [all_drop (by rw [bs_len]; exact hlt), bs_get s k hlt])
      cases hb : bareB s[k] with
      | true =>
        rw [hb] at HB HX
        have HA1 := Lib.hid (show ((bs s).drop (k + 1)).all bareB = (bs s).all bareB by rw [← HA.out, HX.out, Bool.true_and])
        clear hb HX HA
        go_wp2_with fail
        refine (HB.out _).mono ?_
        rintro e w' ⟨rfl, rfl⟩
        go_wp2
        go_roundw
        case rel => exact ⟨k + 1, by omega, by go_num, HA1, HF⟩
        case measure => simp [intOf]; omega
      | false =>
        rw [hb] at HB HX
        have HR := Lib.hid (show isBare (bs s) = false by unfold isBare; rw [← HA.out, HX.out, Bool.false_and, Bool.false_and])
        clear hb HX HA
        go_wp2_with fail
        refine (HB.out _).mono ?_
        rintro e w' ⟨rfl, rfl⟩
        go_wp2
        go_ret
        exact ⟨ret_bool HR.out.symm, HF.out⟩
    · have HR := Lib.hid (show isBare (bs s) = !(bs s).isEmpty by
        have := HA.out
        rw [List.drop_of_length_le (by rw [bs_len]; omega)] at this
        unfold isBare
        rw [← this]; rfl)
      clear HA
      go_wp2
      go_ret
      refine ⟨ret_bool ?_, HF.out⟩
      rw [HR.out, bs_toList]
set_option maxHeartbeats 1000000 in
theorem rIsBare (s : ByteArray) (hs : s.size ≤ 4611686018427387904) (w : World) : Calls Try.prog 37 #[.string s] w fun e w' => e = .returned (.bool (isBare (bs s))) ∧ Fr No w w' := by
  go_enter Try.func37, Try.ntmps37
  go_wp2
  go_loopw [3] (fun i wr => ∃ k : Nat, k ≤ s.size ∧ i = .int .i64 (k : Int) ∧ Hid (((bs s).drop k).all bareB = (bs s).all bareB) ∧ Hid (Fr No w wr)) (fun i _ => s.size - (intOf i).toNat)
  case atStart => exact ⟨0, Nat.zero_le _, rfl, by show _ = _; rw [List.drop_zero], Fr.refl _ _⟩
  case round =>
    obtain ⟨k, hk, rfl, HA, HF⟩ := hrel
    have hw : IntKind.i64.wrap ((k : Int) + 1) = (k : Int) + 1 := IntWalk.i64_in _ (by omega)
    by_cases hlt : k < s.size
    · have HB := Lib.hid (fun W => rBare s[k] W)
      have HX := Lib.hid (show ((bs s).drop k).all bareB = (bareB s[k] && ((bs s).drop (k + 1)).all bareB) by rw [all_drop (by rw [bs_len]; exact hlt), bs_get s k hlt])
      cases hb : bareB s[k] with
      | true =>
        rw [hb] at HB HX
        have HA1 := Lib.hid (show ((bs s).drop (k + 1)).all bareB = (bs s).all bareB by rw [← HA.out, HX.out, Bool.true_and])
        clear hb HX HA
        go_wp2_with fail
        refine (HB.out _).mono ?_
        rintro e w' ⟨rfl, rfl⟩
        go_wp2
        go_roundw
        case rel => exact ⟨k + 1, by omega, by go_num, HA1, HF⟩
        case measure => simp [intOf]; omega
      | false =>
        rw [hb] at HB HX
        have HR := Lib.hid (show isBare (bs s) = false by unfold isBare; rw [← HA.out, HX.out, Bool.false_and, Bool.false_and])
        clear hb HX HA
        go_wp2_with fail
        refine (HB.out _).mono ?_
        rintro e w' ⟨rfl, rfl⟩
        go_wp2
        go_ret
        exact ⟨ret_bool HR.out.symm, HF.out⟩
    · have HR := Lib.hid (show isBare (bs s) = !(bs s).isEmpty by
        have := HA.out
        rw [List.drop_of_length_le (by rw [bs_len]; omega)] at this
        unfold isBare
        rw [← this]; rfl)
      have HE := Lib.hid (show (bs s).isEmpty = decide (s.size = 0) by
        rw [← bs_len]
        cases bs s <;> simp)
      clear HA
      go_wp2
      go_ret
      refine ⟨ret_bool ?_, HF.out⟩
      rw [HR.out, HE.out]
      by_cases h0 : s.size = 0 <;> simp [h0] <;> omega
end Go.Proofs.Ytdhlbdllidfenaa.Wd
