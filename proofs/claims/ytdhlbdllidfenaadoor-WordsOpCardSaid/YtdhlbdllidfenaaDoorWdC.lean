/- Words: a byte written with a backslash, walked. Conditions: none. -/
import Derived.Test.YtdhlbdllidfenaaDoorWdB
namespace Go.Proofs.YtdhlbdllidfenaaDoor.Wd
open Go.RowKit Go.Proofs.YtdhlbdllidfenaaDoor.Mem
set_option linter.unusedVariables false
set_option linter.unusedSimpArgs false
def escR : ER → Ending
  | .bad p c => .returned (.tuple #[.int .u8 0, .int .i64 (p : Int), .int .i64 c])
  | .ok v e => .returned (.tuple #[.int .u8 (v.toNat : Int), .int .i64 (e : Int), .int .i64 0])
theorem bs_get? (s : ByteArray) (k : Nat) : (bs s)[k]? = if h : k < s.size then some (s[k]'h) else none := by
  by_cases h : k < s.size
  · rw [dif_pos h, List.getElem?_eq_getElem (by rw [bs_len]; exact h), bs_get s k h]
  · rw [dif_neg h, List.getElem?_eq_none (by rw [bs_len]; omega)]
theorem esc_val (x : Int) (h0 : 0 ≤ x) (h1 : x ≤ 255) : ((UInt8.ofNat x.toNat).toNat : Int) = x := by
  rw [UInt8.toNat_ofNat']
  omega
end Go.Proofs.YtdhlbdllidfenaaDoor.Wd
