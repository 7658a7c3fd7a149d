/- Words: the book: what Split answers is the document's, and is kept. Conditions: none. -/
import Derived.Test.YtdhlbdllidfenaaDoorBkB
namespace Go.Proofs.YtdhlbdllidfenaaDoor.Wd
open Go.RowKit Go.Proofs.YtdhlbdllidfenaaDoor.Mem
set_option linter.unusedVariables false
set_option linter.unusedSimpArgs false
theorem split_count {l : List UInt8} : ∀ (n i : Nat) (out : List (List UInt8)), l.length - i ≤ n → (splitW l i out).1.length ≤ out.length + (l.length - i)
  | n, i, out, hn => by
    by_cases hi : i < l.length
    · match n, hn with
      | n + 1, hn =>
        by_cases hb : l[i].toNat = 32
        · rw [split_blank hi hb]
          have := split_count (l := l) n (i + 1) out (by omega)
          omega
        · rw [split_one hi hb]
          rcases hO : oneW l i with ⟨p', cc⟩ | ⟨wd, e⟩
          · simp
          · have hee := one_ok hi hO
            dsimp only
            split
            · simp
            · have := split_count (l := l) n e (out ++ [wd]) (by omega)
              rw [List.length_append, List.length_singleton] at this
              omega
      | 0, hn => omega
    · rw [split_end (by omega)]
      show out.length ≤ _
      omega
theorem splitL_count (l : List UInt8) : (splitL l).1.length ≤ 8192 := by
  unfold splitL
  split
  · simp
  · have := split_count (l := l) _ 0 [] (Nat.le_refl _)
    simp at this
    omega
theorem TR.low {D : Nat → Prop} {w w1 : World} {A : Option Addr} {l : List (List UInt8)} {k : Nat} (h : TR D w A l) (hf : Fr No w w1) (hk : w.heap.size ≤ k) : TR (fun q => q ≠ k) w1 A l := by
  refine TR.fr (D := fun q => q ≠ k) (S := No) (fun j u hj => ?_) hf (fun _ _ _ q => q)
  obtain ⟨ad, h1, _, h3⟩ := h j u hj
  have hlt := cell_lt h3
  rw [add_block] at hlt
  exact ⟨ad, h1, by omega, h3⟩
def Small (oo of : List TL) : Prop := (oo ++ of).length ≤ 999000 ∧ ∀ x ∈ oo ++ of, x.d.length ≤ 10000
end Go.Proofs.YtdhlbdllidfenaaDoor.Wd
