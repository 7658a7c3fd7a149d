/- Words: Join, of the program and of the reference, walked. Conditions: none. -/
import Derived.Test.YtdhlbdllidfenaaDoorWdI
import Derived.Lib.Join
namespace Go.Proofs.YtdhlbdllidfenaaDoor.Wd
open Go.RowKit Go.Proofs.YtdhlbdllidfenaaDoor.Mem
set_option linter.unusedVariables false
set_option linter.unusedSimpArgs false
def joinL (l : List (List UInt8)) : List UInt8 := Lib.join (l.map wrW) [32]
theorem joinL_cons (x : List UInt8) (r : List (List UInt8)) : joinL (x :: r) = wrW x ++ Lib.joinTail [32] (r.map wrW) := by unfold joinL; rw [List.map_cons, Lib.join_cons]
theorem joinL_nil : joinL [] = [] := rfl
theorem joinL_first {l : List (List UInt8)} (h : 0 < l.length) : joinL (l.take 1) = wrW l[0] := by
  match l, h with
  | x :: r, _ => rw [List.take_succ_cons, List.take_zero, joinL_cons]; simp [Lib.joinTail]
theorem joinL_more {l : List (List UInt8)} {i : Nat} (h : i + 1 < l.length) : joinL (l.take (i + 2)) = joinL (l.take (i + 1)) ++ [32] ++ wrW l[i + 1] := by
  match l, h with
  | x :: r, h =>
    have h' : i < r.length := by simpa using h
    rw [List.take_succ_cons, List.take_succ_cons, joinL_cons, joinL_cons, List.map_take, List.map_take, Lib.joinTail_take_succ [32] (r.map wrW) i (wrW r[i]) (by rw [List.getElem?_map, List.getElem?_eq_getElem h']; rfl), List.getElem_cons_succ]
    simp [List.append_assoc]
theorem joinL_take_le (l : List (List UInt8)) (k : Nat) : (joinL (l.take k)).length ≤ (joinL l).length := by
  match l, k with
  | [], k => rw [List.take_nil]; omega
  | x :: r, 0 => simp [joinL_nil]
  | x :: r, k + 1 =>
    rw [List.take_succ_cons, joinL_cons, joinL_cons, List.length_append, List.length_append, List.map_take]
    have := Lib.joinTail_take_le [32] (r.map wrW) k
    omega
/-- a list of words, to be read -/
def TR (D : Nat → Prop) (w : World) (A : Option Addr) (l : List (List UInt8)) : Prop := ∀ j u, l[j]? = some u → ∃ ad, A = some ad ∧ D ad.block ∧ w.cell? (ad.add j) = some (sv u)
theorem cell_lt {w : World} {a : Addr} {v : Value} (h : w.cell? a = some v) : a.block < w.heap.size := by
  rcases Nat.lt_or_ge a.block w.heap.size with q | q
  · exact q
  · rw [World.cell?, Array.getElem?_eq_none q] at h; simp at h
theorem TR.any {D : Nat → Prop} {w : World} {A : Option Addr} {l : List (List UInt8)} (h : TR D w A l) : TR Any w A l := fun j u hj => by obtain ⟨ad, h1, _, h3⟩ := h j u hj; exact ⟨ad, h1, trivial, h3⟩
theorem TR.fr {D S : Nat → Prop} {w w1 : World} {A : Option Addr} {l : List (List UInt8)} (h : TR D w A l) (hf : Fr S w w1) (hn : ∀ k, k < w.heap.size → D k → ¬ S k) : TR D w1 A l := fun j u hj => by
  obtain ⟨ad, h1, h2, h3⟩ := h j u hj
  have hb : (ad.add j).block = ad.block := add_block _ _
  have hlt := cell_lt h3
  rw [hb] at hlt
  refine ⟨ad, h1, h2, ?_⟩
  have := hf.block ad.block hlt (hn _ hlt h2)
  rw [← h3]
  unfold World.cell?
  rw [hb, this]
theorem TR.at_ {D : Nat → Prop} {w : World} {A : Option Addr} {l : List (List UInt8)} (h : TR D w A l) (k : Nat) (hk : k < l.length) : ∃ ad, A = some ad ∧ w.cell? (ad.add k) = some (sv l[k]) := by
  obtain ⟨ad, h1, _, h3⟩ := h k _ (List.getElem?_eq_getElem hk)
  exact ⟨ad, h1, h3⟩
theorem fill_next {f : List UInt8 → Value} {z : Value} {l : List (List UInt8)} {k : Nat} (h : k < l.length) : ((l.take k).map f ++ List.replicate (l.length - k) z).set k (f l[k]) = (l.take (k + 1)).map f ++ List.replicate (l.length - (k + 1)) z := by
  have hlen : ((l.take k).map f).length = k := by rw [List.length_map, List.length_take]; omega
  rw [List.set_append_right _ _ (by omega), hlen, Nat.sub_self, List.take_succ_eq_append_getElem h, List.map_append, List.append_assoc]
  congr 1
  rw [show l.length - k = (l.length - (k + 1)) + 1 by omega, List.replicate_succ]
  rfl
theorem bs_append (a b : ByteArray) : bs (a ++ b) = bs a ++ bs b := by unfold bs; rw [ByteArray.data_append, Array.toList_append]
end Go.Proofs.YtdhlbdllidfenaaDoor.Wd
