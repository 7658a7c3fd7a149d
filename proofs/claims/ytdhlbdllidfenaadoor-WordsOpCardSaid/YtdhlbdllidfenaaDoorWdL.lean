/- Words: single, walked. Conditions: none. -/
import Derived.Test.YtdhlbdllidfenaaDoorWdK
namespace Go.Proofs.YtdhlbdllidfenaaDoor.Wd
open Go.RowKit Go.Proofs.YtdhlbdllidfenaaDoor.Mem
set_option linter.unusedVariables false
set_option linter.unusedSimpArgs false
def lenV : Value → Nat
  | .slice _ n _ => n
  | _ => 0
theorem Buf.last {w0 w : World} {rb : Option Nat} {A : Option Addr} {n m c : Nat} {acc : List UInt8} (h : Buf w0 w rb (.slice A n c) acc) (hn : acc.length = n) (hm : n = m + 1) : ∃ g, rb = some g ∧ A = some ⟨g, 0, none⟩ ∧ n ≤ c ∧ w.cell? ⟨g, m, none⟩ = some (.int .u8 ((acc.getLastD 0).toNat : Int)) := by
  have h1 := h.1
  rw [hn] at h1
  obtain ⟨g, c', hg, hv, hc, hcell, _⟩ := h1.at_ (by omega)
  injection hv with e1 e2 e3
  subst e3
  refine ⟨g, hg, e1, hc, hcell m _ ?_⟩
  have hml : m < acc.length := by omega
  unfold bv
  rw [List.getElem?_map, List.getElem?_eq_getElem hml]
  have hne : acc ≠ [] := by intro e; rw [e] at hml; simp at hml
  have : acc.getLastD 0 = acc[m] := by
    rw [List.getLastD_eq_getLast?, List.getLast?_eq_some_getLast hne, Option.getD_some, List.getLast_eq_getElem]
    congr 1
    omega
  rw [this]; rfl
theorem Buf.cut {w0 w : World} {g n m c : Nat} {acc : List UInt8} (h : Buf w0 w (some g) (.slice (some ⟨g, 0, none⟩) n c) acc) (hn : acc.length = n) (hm : n = m + 1) : Buf w0 w (some g) (.slice (some ⟨g, 0, none⟩) m c) acc.dropLast := by
  have h1 := h.1
  rw [hn] at h1
  obtain ⟨sp, hB, hsp, hc, hcm⟩ := h1.open_
  have hne : acc ≠ [] := by intro e; rw [e] at hn; simp at hn; omega
  have hbv : bv acc = bv acc.dropLast ++ [.int .u8 ((acc.getLast hne).toNat : Int)] := by
    conv => lhs; rw [← List.dropLast_concat_getLast hne]
    rw [bv_append]; rfl
  have hl : acc.dropLast.length = m := by rw [List.length_dropLast]; omega
  refine ⟨?_, h.2.1, h.2.2⟩
  rw [hl]
  refine Row.shut (sp := [.int .u8 ((acc.getLast hne).toNat : Int)] ++ sp) ?_ (by rw [bv_len, hl]; omega) (by rw [List.length_append, List.length_singleton]; omega) (by omega) hcm
  rw [← List.append_assoc, ← hbv]; exact hB
theorem getD_get {l : List UInt8} {k : Nat} (h : k < l.length) : l.getD k 0 = l[k] := by rw [List.getD_eq_getElem?_getD, List.getElem?_eq_getElem h]; rfl
end Go.Proofs.YtdhlbdllidfenaaDoor.Wd
