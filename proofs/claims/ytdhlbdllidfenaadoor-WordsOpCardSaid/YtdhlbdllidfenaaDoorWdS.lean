/- Words: WordsJoin, walked. Conditions: none. -/
import Derived.Test.YtdhlbdllidfenaaDoorWdR
import Derived.Test.YtdhlbdllidfenaaDoorWdP
namespace Go.Proofs.YtdhlbdllidfenaaDoor.Wd
open Go.RowKit Go.Proofs.YtdhlbdllidfenaaDoor.Mem
set_option linter.unusedVariables false
set_option linter.unusedSimpArgs false
theorem lens_le : ∀ ws : List (List UInt8), Lib.lens (ws.map wrW) ≤ 4 * Lib.lens ws + 2 * ws.length
  | [] => by simp [Lib.lens]
  | x :: r => by
    have := lens_le r
    have h := wrW_len x
    simp only [Lib.lens, List.map_cons, List.sum_cons, List.length_cons] at this ⊢
    omega
theorem joinL_le (ws : List (List UInt8)) : (joinL ws).length ≤ 4 * Lib.lens ws + 3 * ws.length := by
  match ws with
  | [] => simp [joinL_nil]
  | y :: r =>
    have he : (joinL (y :: r)).length = 1 * r.length + Lib.lens ((y :: r).map wrW) := by
      unfold joinL
      rw [List.map_cons, Lib.join_length, List.length_map]; rfl
    have := lens_le (y :: r)
    rw [List.length_cons] at this ⊢
    omega
theorem lens_rev (ws : List (List UInt8)) : Lib.lens ws.reverse = Lib.lens ws := by
  unfold Lib.lens
  rw [List.map_reverse, List.sum_reverse]
theorem lens_mem0 : ∀ {ws : List (List UInt8)} {x : List UInt8}, x ∈ ws → x.length ≤ Lib.lens ws
  | y :: r, x, h => by
    have he : Lib.lens (y :: r) = y.length + Lib.lens r := by simp [Lib.lens]
    rcases List.mem_cons.1 h with rfl | h
    · omega
    · have := lens_mem0 h
      omega
theorem infoS1 : (Tryd.prog.info? 9).map (·.size) = some 1 := by kernel_rfl
theorem Lent.swap {w : World} {g c : Nat} {l m : List (List UInt8)} {cur : List Value} {sp : List Value} (hl : m.length = l.length) (hcur : cur = (l ++ [mkS, mkS, mkS]).map sv ++ sp) (h : Bk w g 9 (splice cur 0 (m.map sv))) (h1 : l.length + 3 ≤ c) (h2 : c ≤ maxLen) (h3 : sp.length = c - (l.length + 3)) : Lent w g c m := by
  refine ⟨sp, ?_, by rw [hl]; exact h1, h2, by rw [hl]; exact h3⟩
  subst hcur
  have e : splice ((l ++ [mkS, mkS, mkS]).map sv ++ sp) 0 (m.map sv) = (m ++ [mkS, mkS, mkS]).map sv ++ sp := by
    unfold splice
    rw [List.take_zero, List.nil_append, Nat.zero_add, List.length_map, hl, List.map_append, List.map_append, List.append_assoc, List.drop_left' (by rw [List.length_map]), List.append_assoc]
  rw [← e]; exact h
end Go.Proofs.YtdhlbdllidfenaaDoor.Wd
