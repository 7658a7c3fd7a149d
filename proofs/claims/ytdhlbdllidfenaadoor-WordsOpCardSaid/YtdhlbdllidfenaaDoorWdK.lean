/- Words: a line's blanks as Join lays them, in plain terms. No program here. Conditions: none. -/
import Derived.Test.YtdhlbdllidfenaaDoorWdJ
namespace Go.Proofs.YtdhlbdllidfenaaDoor.Wd
set_option linter.unusedVariables false
set_option linter.unusedSimpArgs false
/-- single's first loop, from place i on -/
def sgW (l : List UInt8) (i : Nat) (q : Bool) (out : List UInt8) : List UInt8 × Bool :=
  if h : i < l.length then
    if l[i].toNat = 32 ∧ q = false then (if out ≠ [] ∧ (out.getLastD 0).toNat ≠ 32 then sgW l (i + 1) q (out ++ [l[i]]) else sgW l (i + 1) q out)
    else if q = true ∧ l[i].toNat = 92 ∧ i + 1 < l.length then sgW l (i + 2) q (out ++ [l[i], l.getD (i + 1) 0])
    else if l[i].toNat = 34 then sgW l (i + 1) (!q) (out ++ [l[i]])
    else sgW l (i + 1) q (out ++ [l[i]])
  else (out, q)
termination_by l.length - i
/-- its second -/
def strip (l : List UInt8) : List UInt8 := if h : l ≠ [] ∧ (l.getLastD 0).toNat = 32 then strip l.dropLast else l
termination_by l.length
decreasing_by
  have h0 : 0 < l.length := List.length_pos_iff.2 h.1
  rw [List.length_dropLast]; omega
def trimW : List UInt8 × Bool → List UInt8
  | (out, true) => out
  | (out, false) => strip out
def singleL (l : List UInt8) : List UInt8 := trimW (sgW l 0 false [])
section
variable {l : List UInt8} {i : Nat} {q : Bool} {out : List UInt8}
theorem sg_end (h : l.length ≤ i) : sgW l i q out = (out, q) := by rw [sgW, dif_neg (by omega)]
theorem sg_blank (h : i < l.length) (hc : l[i].toNat = 32) (ho : out ≠ []) (hl : (out.getLastD 0).toNat ≠ 32) : sgW l i false out = sgW l (i + 1) false (out ++ [l[i]]) := by rw [sgW, dif_pos h, if_pos ⟨hc, rfl⟩, if_pos ⟨ho, hl⟩]
theorem sg_skip (h : i < l.length) (hc : l[i].toNat = 32) (ho : out = [] ∨ (out.getLastD 0).toNat = 32) : sgW l i false out = sgW l (i + 1) false out := by rw [sgW, dif_pos h, if_pos ⟨hc, rfl⟩, if_neg (fun q => by rcases ho with e | e; exact q.1 e; exact q.2 e)]
theorem sg_esc (h : i + 1 < l.length) (hc : l[i].toNat = 92) : sgW l i true out = sgW l (i + 2) true (out ++ [l[i], l.getD (i + 1) 0]) := by rw [sgW, dif_pos (by omega), if_neg (by simp), if_pos ⟨rfl, hc, h⟩]
theorem sg_quote (h : i < l.length) (hc : l[i].toNat = 34) : sgW l i q out = sgW l (i + 1) (!q) (out ++ [l[i]]) := by rw [sgW, dif_pos h, if_neg (by omega), if_neg (by omega), if_pos hc]
theorem sg_other (h : i < l.length) (h1 : ¬ (l[i].toNat = 32 ∧ q = false)) (h2 : ¬ (q = true ∧ l[i].toNat = 92 ∧ i + 1 < l.length)) (h3 : l[i].toNat ≠ 34) : sgW l i q out = sgW l (i + 1) q (out ++ [l[i]]) := by rw [sgW, dif_pos h, if_neg h1, if_neg h2, if_neg h3]
end
theorem strip_yes {l : List UInt8} (h : l ≠ []) (hc : (l.getLastD 0).toNat = 32) : strip l = strip l.dropLast := by rw [strip, dif_pos ⟨h, hc⟩]
theorem strip_no {l : List UInt8} (h : ¬ (l ≠ [] ∧ (l.getLastD 0).toNat = 32)) : strip l = l := by rw [strip, dif_neg h]
end Go.Proofs.YtdhlbdllidfenaaDoor.Wd
