/- Words: WordsOneForm, walked. Conditions: none. -/
import Derived.Test.YtdhlbdllidfenaaDoorWdL
import Derived.Test.YtdhlbdllidfenaaDoorWdM
namespace Go.Proofs.YtdhlbdllidfenaaDoor.Wd
open Go.RowKit Go.Proofs.YtdhlbdllidfenaaDoor.Mem
set_option linter.unusedVariables false
set_option linter.unusedSimpArgs false
theorem wrB_pos (c : UInt8) : 1 ≤ (wrB c).length := by
  unfold wrB
  split
  · simp
  · split <;> simp
theorem wrW_ge (x : List UInt8) : x.length ≤ (wrW x).length ∧ 1 ≤ (wrW x).length := by
  refine ⟨?_, List.length_pos_iff.2 (wrW_last x).1⟩
  unfold wrW
  split
  · omega
  · have : ∀ l : List UInt8, l.length ≤ (l.flatMap wrB).length := fun l => by
      induction l with
      | nil => simp
      | cons a l ih => rw [List.flatMap_cons, List.length_append, List.length_cons]; have := wrB_pos a; omega
    have := this x
    rw [List.length_append, List.length_cons, List.length_singleton]
    omega
theorem lens_mem : ∀ {ws : List (List UInt8)} {x : List UInt8}, x ∈ ws → x.length ≤ Lib.lens (ws.map wrW) ∧ ws.length ≤ Lib.lens (ws.map wrW)
  | y :: r, x, h => by
    have hy := wrW_ge y
    have hr : r.length ≤ Lib.lens (r.map wrW) := by
      cases r with
      | nil => simp
      | cons z r => exact (lens_mem (List.mem_cons_self ..)).2
    have he : Lib.lens ((y :: r).map wrW) = (wrW y).length + Lib.lens (r.map wrW) := by simp [Lib.lens]
    rw [he, List.length_cons]
    rcases List.mem_cons.1 h with rfl | h
    · omega
    · have := (lens_mem h).1
      omega
theorem joinL_ge {ws : List (List UInt8)} : (∀ x ∈ ws, x.length ≤ (joinL ws).length) ∧ ws.length ≤ (joinL ws).length := by
  match ws with
  | [] => exact ⟨fun x h => (by cases h), Nat.le_refl _⟩
  | y :: r =>
    have he : (joinL (y :: r)).length = 1 * r.length + Lib.lens ((y :: r).map wrW) := by
      unfold joinL
      rw [List.map_cons, Lib.join_length, List.length_map]; rfl
    refine ⟨fun x h => ?_, ?_⟩
    · have := (lens_mem h).1; omega
    · have := (lens_mem (x := y) (ws := y :: r) (List.mem_cons_self ..)).2; omega
theorem sg_len {l : List UInt8} : ∀ (n i : Nat) (q : Bool) (out : List UInt8), l.length - i ≤ n → (sgW l i q out).1.length ≤ out.length + (l.length - i)
  | n, i, q, out, hn => by
    by_cases hi : i < l.length
    · match n, hn with
      | n + 1, hn =>
        rw [sgW, dif_pos hi]
        split
        · split
          · have := sg_len (l := l) n (i + 1) q (out ++ [l[i]]) (by omega)
            rw [List.length_append, List.length_singleton] at this
            omega
          · have := sg_len (l := l) n (i + 1) q out (by omega)
            omega
        · split
          · rename_i h
            have := sg_len (l := l) n (i + 2) q (out ++ [l[i], l.getD (i + 1) 0]) (by omega)
            rw [List.length_append] at this
            have e : [l[i], l.getD (i + 1) 0].length = 2 := rfl
            omega
          · split
            · have := sg_len (l := l) n (i + 1) (!q) (out ++ [l[i]]) (by omega)
              rw [List.length_append, List.length_singleton] at this
              omega
            · have := sg_len (l := l) n (i + 1) q (out ++ [l[i]]) (by omega)
              rw [List.length_append, List.length_singleton] at this
              omega
      | 0, hn => omega
    · rw [sg_end (by omega)]
      show out.length ≤ _
      omega
theorem strip_len : ∀ (n : Nat) (l : List UInt8), l.length ≤ n → (strip l).length ≤ l.length
  | n, l, hn => by
    by_cases h : l ≠ [] ∧ (l.getLastD 0).toNat = 32
    · have h0 : 0 < l.length := List.length_pos_iff.2 h.1
      match n, hn with
      | n + 1, hn =>
        rw [strip_yes h.1 h.2]
        have := strip_len n l.dropLast (by rw [List.length_dropLast]; omega)
        rw [List.length_dropLast] at this
        omega
      | 0, hn => omega
    · rw [strip_no h]; omega
theorem single_len (l : List UInt8) : (singleL l).length ≤ l.length := by
  unfold singleL
  have := sg_len (l := l) _ 0 false [] (Nat.le_refl _)
  rw [List.length_nil] at this
  rcases hR : sgW l 0 false [] with ⟨o, _ | _⟩
  · rw [hR] at this
    have h2 := strip_len _ o (Nat.le_refl _)
    show (strip o).length ≤ _
    simp at this
    omega
  · rw [hR] at this
    show o.length ≤ _
    simp at this
    omega
theorem Row.tr {w : World} {b : Option Nat} {A : Option Addr} {c n : Nat} {l : List (List UInt8)} {D : Nat → Prop} (h : Row w 9 1 b (.slice A n c) n (l.map sv)) (hd : ∀ k, b = some k → D k) : TR D w A l := fun j u hj => by
  have hjl : j < l.length := (List.getElem?_eq_some_iff.1 hj).1
  have hn : l.length = n := by have := h.len; rw [List.length_map] at this; omega
  obtain ⟨g, c', hg, hv, _, hc, _⟩ := h.at_ (by omega)
  injection hv with e1 e2 e3
  subst e1
  refine ⟨⟨g, 0, none⟩, rfl, hd g hg, ?_⟩
  rw [add0, hc j _ (by rw [List.getElem?_map, hj]; rfl)]
theorem newTexts (w : World) (l : List (List UInt8)) : TR (fun k => w.heap.size ≤ k) (w.alloc (.cells (l.map sv).toArray 9 (0, 0))) (some ⟨w.heap.size, 0, none⟩) l := fun j u hj =>
  ⟨_, rfl, Nat.le_refl _, by rw [add0]; exact ((Bk.new w 9 (l.map sv)).cell j).trans (by rw [List.getElem?_map, hj]; rfl)⟩
end Go.Proofs.YtdhlbdllidfenaaDoor.Wd
