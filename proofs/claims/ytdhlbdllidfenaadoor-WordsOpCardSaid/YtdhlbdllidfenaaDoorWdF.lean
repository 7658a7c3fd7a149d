/- Words: one word; Split, walked. Conditions: none. -/
import Derived.Test.YtdhlbdllidfenaaDoorWdE
namespace Go.Proofs.YtdhlbdllidfenaaDoor.Wd
open Go.RowKit Go.Proofs.YtdhlbdllidfenaaDoor.Mem
set_option linter.unusedVariables false
set_option linter.unusedSimpArgs false
theorem bs_extract (s : ByteArray) (a b : Nat) : bs (s.extract a b) = ((bs s).drop a).take (b - a) := by
  unfold bs
  rw [ByteArray.data_extract, Array.toList_extract]
theorem ext_mk (s : ByteArray) (a b : Nat) : s.extract a b = ⟨(((bs s).drop a).take (b - a)).toArray⟩ := by rw [← bs_extract, bs_mk]
theorem bs_getD (s : ByteArray) (k : Nat) (h : k < s.size) : (bs s).getD k 0 = s[k] := by
  rw [List.getD_eq_getElem?_getD, bs_get?, dif_pos h]; rfl
end Go.Proofs.YtdhlbdllidfenaaDoor.Wd
