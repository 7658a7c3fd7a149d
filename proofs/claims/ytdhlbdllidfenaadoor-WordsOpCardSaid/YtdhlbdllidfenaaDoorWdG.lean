/- Words: Split, walked. Conditions: none. -/
import Derived.Test.YtdhlbdllidfenaaDoorWdF
namespace Go.Proofs.YtdhlbdllidfenaaDoor.Wd
open Go.RowKit Go.Proofs.YtdhlbdllidfenaaDoor.Mem
set_option linter.unusedVariables false
set_option linter.unusedSimpArgs false
/-- a word as a value -/
def sv (l : List UInt8) : Value := .string ⟨l.toArray⟩
theorem sv_bs (s : ByteArray) : sv (bs s) = .string s := by unfold sv; rw [bs_mk]
theorem infoStr : (Tryd.prog.info? 9).map (fun i => (i.zero, i.size, i.bytes)) = some (some (.string ⟨#[]⟩), 1, 16) := by kernel_rfl
abbrev SR := List (List UInt8) × Nat × Int
/-- what Split hands out, in memory of its own -/
def Splits (w : World) (R : SR) (e : Ending) (w' : World) : Prop := ∃ A c rb, e = .returned (.tuple #[.slice A R.1.length c, .int .i64 (R.2.1 : Int), .int .i64 R.2.2]) ∧ Row w' 9 1 rb (.slice A R.1.length c) R.1.length (R.1.map sv) ∧ Fr No w w' ∧ ∀ k, rb = some k → w.heap.size ≤ k
theorem Splits.nil_ {w w' : World} (p : Nat) (c : Int) (hf : Fr No w w') : Splits w ([], p, c) (.returned (.tuple #[.slice none 0 0, .int .i64 (p : Int), .int .i64 c])) w' :=
  ⟨none, 0, none, rfl, Row.nil _ _ _, hf, fun k hk => by cases hk⟩
end Go.Proofs.YtdhlbdllidfenaaDoor.Wd
