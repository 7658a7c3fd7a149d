/- For a range within a range: a thing abides what the loops lay; what is told at each number. Conditions: none. -/
import Derived.Test.YtobnehbcnlhchaaVtM
namespace Go.Proofs.Ytobnehbcnlhchaa.Vt
open Go.RowKit Go.Proofs.Ytobnehbcnlhchaa.Mem
set_option linter.unusedVariables false
set_option linter.unusedSimpArgs false
theorem bt_cells {w : World} {k t : Nat} {row : Option Nat} (h : BT w k t) (hr : ∀ r, row = some r → ∃ o : Obj, w.heap[r]? = some o ∧ o.isCells = false) : row ≠ some k := fun e => by
  obtain ⟨o, ho, hc⟩ := hr k e
  obtain ⟨cs, fr, hb⟩ := h
  rw [hb] at ho
  cases ho
  cases hc
theorem Th.grown {w w1 : World} {t : TB} {n : Nat} {said : List Int} {spoke : List Bool} {row : Option Nat} (h : Th w t n said spoke) (hg : w.grownBy w1 row) (hr : ∀ r, row = some r → ∃ o : Obj, w.heap[r]? = some o ∧ o.isCells = false) : Th w1 t n said spoke :=
  h.fr (Fr.grown (S := fun k => row = some k) hg (fun k e => e)) (fun k hk e => by
    rcases h.bt hk with q | q | q | q | q
    · exact bt_cells q hr e
    · exact bt_cells q hr e
    · exact bt_cells q hr e
    · exact bt_cells q hr e
    · exact bt_cells q hr e)
theorem Fr.grown_on {S : Nat → Prop} {w0 w w1 : World} {row : Option Nat} (h : Fr S w0 w) (hg : w.grownBy w1 row) (hr : ∀ r, row = some r → w0.heap.size ≤ r) : Fr S w0 w1 :=
  h.trans (Fr.grown (S := fun k => row = some k) hg (fun k e => e)) (fun k hk e => by have := hr k e; omega)
/-- what is told at a number that speaks -/
theorem said_mem : ∀ (s : List (Bool × Int)) (i : Nat) (x : Int × Int), x ∈ VtI.saidT s i → ∃ k : Nat, s[k]? = some (true, x.2) ∧ x.1 = ((i + k : Nat) : Int)
  | [], i, x, h => by cases h
  | (b, v) :: r, i, x, h => by
    unfold VtI.saidT at h
    rcases List.mem_append.1 h with h | h
    · cases b with
      | false => cases h
      | true =>
        simp only [if_true, List.mem_singleton] at h
        subst h
        exact ⟨0, rfl, rfl⟩
    · obtain ⟨k, h1, h2⟩ := said_mem r (i + 1) x h
      exact ⟨k + 1, h1, by rw [h2]; congr 1; omega⟩
theorem told_mem {n : Nat} {said : List Int} {spoke : List Bool} (hl1 : said.length = n) (hl2 : spoke.length = n) (h7 : n ≤ 7) {x : Int × Int} (h : x ∈ VtI.saidT (s7 id 0 said spoke) 0) :
    ∃ k : Nat, k < n ∧ x.1 = (k : Int) ∧ spoke[k]? = some true ∧ said[k]? = some x.2 := by
  obtain ⟨k, h1, h2⟩ := said_mem _ _ _ h
  have hk7 : k < 7 := by
    have := (List.getElem?_eq_some_iff.1 h1).1
    rw [s7_len] at this
    exact this
  rw [s7_get k hk7] at h1
  injection h1 with h1
  injection h1 with h3 h4
  have hkn : k < n := by
    rcases Nat.lt_or_ge k n with q | q
    · exact q
    · rw [List.getD_eq_getElem?_getD, List.getElem?_eq_none (by omega)] at h3
      cases h3
  rw [h3] at h4
  refine ⟨k, hkn, by rw [h2]; congr 1; omega, ?_, ?_⟩
  · rw [List.getD_eq_getElem?_getD, List.getElem?_eq_getElem (by omega)] at h3
    rw [List.getElem?_eq_getElem (by omega)]
    exact congrArg some h3
  · simp only [if_true, id] at h4
    rw [List.getD_eq_getElem?_getD, List.getElem?_eq_getElem (by omega)] at h4
    rw [List.getElem?_eq_getElem (by omega)]
    exact congrArg some h4
/-- how a range's list grows, number for number -/
structure Tells (n : Nat) (said : List Int) (spoke : List Bool) (s : List (Bool × Int)) : Prop where
  next : ∀ (k : Nat) (b : Bool) (v : Int), k < n → spoke[k]? = some b → said[k]? = some v → VtI.saidT (s.take (k + 1)) 0 = VtI.saidT (s.take k) 0 ++ (if b = true then [((k : Int), v)] else [])
  len : (VtI.saidT s 0).length = cnt spoke
  all : VtI.saidT (s.take n) 0 = VtI.saidT s 0
theorem tells {n : Nat} {said : List Int} {spoke : List Bool} (hl1 : said.length = n) (hl2 : spoke.length = n) (h7 : n ≤ 7) : Tells n said spoke (s7 id 0 said spoke) := by
  refine ⟨fun k b v hk hb hv => ?_, by rw [saidI said spoke (by omega), upS_len], ?_⟩
  · have hb' : spoke.getD k false = b := by rw [List.getD_eq_getElem?_getD, hb]; rfl
    have hv' : said.getD k 0 = v := by rw [List.getD_eq_getElem?_getD, hv]; rfl
    have h := s7_get (f := id) (z := (0 : Int)) (said := said) (spoke := spoke) k (by omega)
    rw [hb', hv'] at h
    rw [VtI.saidT_take _ k _ h]
    cases b <;> simp
  · have hend : ∀ k, n ≤ k → k ≤ 7 → VtI.saidT ((s7 id 0 said spoke).take k) 0 = VtI.saidT ((s7 id 0 said spoke).take n) 0 := fun k hk h7 => by
      induction k with
      | zero => have : n = 0 := by omega
                subst this; rfl
      | succ k ih =>
        rcases Nat.lt_or_ge k n with q | q
        · have : k + 1 = n := by omega
          rw [this]
        · have hg : spoke.getD k false = false := by rw [List.getD_eq_getElem?_getD, List.getElem?_eq_none (by omega)]; rfl
          have h := s7_get (f := id) (z := (0 : Int)) (said := said) (spoke := spoke) k (by omega)
          rw [hg] at h
          rw [VtI.saidT_take _ k _ h, ih q (by omega)]
          simp
    rw [← hend 7 h7 (Nat.le_refl _)]
    rw [List.take_of_length_le (by rw [s7_len]; omega)]
/-- one of them is at hand: what came so far is what there is ahead of k -/
theorem Tells.no {n : Nat} {said : List Int} {spoke : List Bool} {s : List (Bool × Int)} (h : Tells n said spoke s) {k : Nat} {v : Int} (hk : k < n) (hb : spoke[k]? = some true) (hv : said[k]? = some v) (y : Int × Int) (hy : y ≠ ((k : Int), v)) : ¬ (VtI.saidT (s.take k) 0 ++ [y] <+: VtI.saidT s 0) := fun hpre => by
  have h1 := VtI.saidT_prefix s (k + 1)
  rw [h.next k true v hk hb hv, if_pos rfl] at h1
  have h2 := List.prefix_of_prefix_length_le hpre h1 (by simp)
  have h3 := h2.eq_of_length (by simp)
  have h4 := List.append_cancel_left h3
  simp at h4
  exact hy h4
theorem Tells.no_more {n : Nat} {said : List Int} {spoke : List Bool} {s : List (Bool × Int)} (h : Tells n said spoke s) (y : Int × Int) : ¬ (VtI.saidT (s.take n) 0 ++ [y] <+: VtI.saidT s 0) := fun hpre => by
  have h2 := hpre.length_le
  rw [← h.all] at h2
  simp at h2
  omega
end Go.Proofs.Ytobnehbcnlhchaa.Vt
