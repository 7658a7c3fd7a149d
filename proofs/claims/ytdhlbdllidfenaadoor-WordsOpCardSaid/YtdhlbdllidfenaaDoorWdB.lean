/- Words: the small functions, walked: bare, plain, digit, of the program and of the reference. Conditions: none. -/
import Derived.Test.YtdhlbdllidfenaaDoorWdA
import Derived.WalkKit
import Derived.BigQuiet
import Derived.Laws.Strings
import Derived.Deep.QuietTactic
namespace Go.Proofs.YtdhlbdllidfenaaDoor.Wd
open Go.RowKit Go.Proofs.YtdhlbdllidfenaaDoor.Mem
set_option linter.unusedVariables false
set_option linter.unusedSimpArgs false
theorem ret_bool {a b : Bool} (h : a = b) : Ending.returned (.bool a) = .returned (.bool b) := by rw [h]
theorem ret_int {k : IntKind} {a b : Int} (h : a = b) : Ending.returned (.int k a) = .returned (.int k b) := by rw [h]
def bareN (n : Nat) : Bool := (decide (97 ≤ n) && decide (n ≤ 122)) || (decide (65 ≤ n) && decide (n ≤ 90)) || (decide (48 ≤ n) && decide (n ≤ 57)) || n == 45 || n == 95 || n == 46 || n == 47
def digN (n : Nat) : Int := if 48 ≤ n ∧ n ≤ 57 then (n : Int) - 48 else if 97 ≤ n ∧ n ≤ 102 then (n : Int) - 97 + 10 else -1
theorem bareN_of (n : Nat) : bareN n = decide ((97 ≤ (n : Int) ∧ (n : Int) ≤ 122) ∨ (65 ≤ (n : Int) ∧ (n : Int) ≤ 90) ∨ (48 ≤ (n : Int) ∧ (n : Int) ≤ 57) ∨ (n : Int) = 45 ∨ (n : Int) = 95 ∨ (n : Int) = 46 ∨ (n : Int) = 47) := by
  rw [Bool.eq_iff_iff]
  simp only [bareN, Bool.or_eq_true, Bool.and_eq_true, decide_eq_true_eq, beq_iff_eq]
  omega
theorem bareB_of (c : UInt8) : bareB c = decide ((97 ≤ (c.toNat : Int) ∧ (c.toNat : Int) ≤ 122) ∨ (65 ≤ (c.toNat : Int) ∧ (c.toNat : Int) ≤ 90) ∨ (48 ≤ (c.toNat : Int) ∧ (c.toNat : Int) ≤ 57) ∨ (c.toNat : Int) = 45 ∨ (c.toNat : Int) = 95 ∨ (c.toNat : Int) = 46 ∨ (c.toNat : Int) = 47) := bareN_of c.toNat
/-- the bytes of a text -/
def bs (s : ByteArray) : List UInt8 := s.data.toList
theorem bs_len (s : ByteArray) : (bs s).length = s.size := by unfold bs; rw [Array.length_toList]; rfl
theorem bs_get (s : ByteArray) (k : Nat) (h : k < s.size) : (bs s)[k]'(by rw [bs_len]; exact h) = s[k] := by unfold bs; rw [Array.getElem_toList]; rfl
theorem bs_mk (s : ByteArray) : (⟨(bs s).toArray⟩ : ByteArray) = s := by unfold bs; simp
theorem bs_of (l : List UInt8) : bs ⟨l.toArray⟩ = l := by unfold bs; simp
theorem bs_toList (s : ByteArray) : s.toList = bs s := ByteArray.toList_eq s
theorem all_drop {l : List UInt8} {k : Nat} (h : k < l.length) : (l.drop k).all bareB = (bareB l[k] && (l.drop (k + 1)).all bareB) := by rw [List.drop_eq_getElem_cons h, List.all_cons]
end Go.Proofs.YtdhlbdllidfenaaDoor.Wd
