/- Words: the reference's Split, walked. Conditions: none. -/
import Derived.Test.YtdhlbdllidfenaaDoorWdT
namespace Go.Proofs.YtdhlbdllidfenaaDoor.Wd
open Go.RowKit Go.Proofs.YtdhlbdllidfenaaDoor.Mem
set_option linter.unusedVariables false
set_option linter.unusedSimpArgs false
theorem newVals (w : World) (cs : List Value) : ∃ ad, some (⟨w.heap.size, 0, none⟩ : Addr) = some ad ∧ ∀ (j : Nat) (u : Value), cs[j]? = some u → (w.alloc (.cells cs.toArray 9 (0, 0))).cell? (ad.add j) = some u :=
  ⟨_, rfl, fun j u hj => by rw [add0]; exact ((Bk.new w 9 cs).cell j).trans hj⟩
theorem TBuf.splits {w wr : World} {rb : Option Nat} {A : Option Addr} {n c : Nat} {l : List (List UInt8)} (h : TBuf w wr rb (.slice A n c) l) (hn : l.length = n) : Splits w (l, 0, 0) (.returned (.tuple #[.slice A n c, .int .i64 0, .int .i64 0])) wr := by
  refine ⟨A, c, rb, ?_, ?_, h.2.1, h.2.2⟩
  · show _ = Ending.returned (.tuple #[.slice A l.length c, .int .i64 0, .int .i64 0])
    rw [hn]
  · show Row _ _ _ _ (.slice A l.length c) l.length _
    have := h.1
    rw [hn] at this ⊢
    exact this
end Go.Proofs.YtdhlbdllidfenaaDoor.Wd
