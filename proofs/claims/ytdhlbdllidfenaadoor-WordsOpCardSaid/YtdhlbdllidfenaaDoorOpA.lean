/- Words: ops as words, and back, in plain terms. No program here. Conditions: none. -/
import Derived.Test.YtdhlbdllidfenaaDoorReA
namespace Go.Proofs.YtdhlbdllidfenaaDoor.Wd
open Go.Proofs.YtdhlbdllidfenaaDoor.Nu (numL num_dec num_is)
set_option linter.unusedVariables false
set_option linter.unusedSimpArgs false
structure OV where (kind : Int) (name text : List UInt8) (num most : Int)
def hasT (k : Int) : Bool := k == 3 || k == 5
def hasK (k : Int) : Bool := k == 4 || k == 6
def hasN (k : Int) : Bool := decide (1 ≤ k) && decide (k ≤ 7)
def chkO (o : OV) : Int :=
  if o.kind < 1 ∨ 8 < o.kind then 50
  else if hasN o.kind = true ∧ (o.name.length < 1 ∨ 16 < o.name.length) then 51
  else if (o.kind = 5 ∧ (o.text.length < 1 ∨ 16 < o.text.length)) ∨ (o.kind = 3 ∧ 64 < o.text.length) then 52
  else if hasK o.kind = true ∧ (o.num < 0 ∨ 1099511627776 < o.num) then 53
  else if o.kind = 6 ∧ (o.most < 1 ∨ 8 < o.most) then 54
  else if (hasN o.kind = false ∧ o.name ≠ []) ∨ (hasT o.kind = false ∧ o.text ≠ []) ∨ (hasK o.kind = false ∧ o.num ≠ 0) ∨ (o.kind ≠ 6 ∧ o.most ≠ 0) then 55
  else 0
def kindsL : List (List UInt8) := [[], [109, 97, 107, 101], [100, 114, 111, 112], [112, 117, 115, 104], [116, 114, 105, 109], [116, 97, 107, 101], [114, 101, 97, 100], [99, 111, 117, 110, 116], [108, 105, 115, 116]]
/-- the words behind the kind's -/
def fieldsW (o : OV) : List (List UInt8) :=
  (if o.kind ≠ 8 then [o.name] else []) ++ (if hasT o.kind = true then [o.text] else []) ++ (if hasK o.kind = true then [Lib.decDigits o.num.toNat] else []) ++ (if o.kind = 6 then [Lib.decDigits o.most.toNat] else [])
def opW (o : OV) : List (List UInt8) × Int := if chkO o ≠ 0 then ([], chkO o) else (kindsL.getD o.kind.toNat [] :: fieldsW o, 0)
def ov0 : OV := ⟨0, [], [], 0, 0⟩
def manyK (k : Nat) : Nat := if k = 8 then 1 else if k = 3 ∨ k = 5 ∨ k = 4 then 3 else if k = 6 then 4 else 2
def kindK (w : List UInt8) : Int := idxL (kindsL.drop 1) 1 w
/-- what ReadOp lays into the op, if the words are enough; none: a number is none -/
def layO (k : Nat) (r : List (List UInt8)) : Option OV :=
  if k = 8 then some ⟨8, [], [], 0, 0⟩
  else if k = 3 ∨ k = 5 then some ⟨k, r.getD 0 [], r.getD 1 [], 0, 0⟩
  else if k = 4 then (numL (r.getD 1 [])).map fun n => ⟨k, r.getD 0 [], [], (n : Int), 0⟩
  else if k = 6 then (numL (r.getD 1 [])).bind fun n => (numL (r.getD 2 [])).map fun m => ⟨k, r.getD 0 [], [], (n : Int), (m : Int)⟩
  else some ⟨k, r.getD 0 [], [], 0, 0⟩
def readO (l : List (List UInt8)) : OV × Nat × Int :=
  match l with
  | [] => (ov0, 0, 162)
  | w :: r =>
    if kindK w < 0 then (ov0, 0, 163)
    else if r.length + 1 < manyK (kindK w).toNat then (ov0, 0, 162)
    else match layO (kindK w).toNat r with
      | none => (ov0, 0, 163)
      | some o => if chkO o ≠ 0 then (ov0, 0, chkO o) else (o, manyK (kindK w).toNat, 0)
theorem chk_op {o : OV} (h : chkO o = 0) : ∃ k : Nat, 1 ≤ k ∧ k ≤ 8 ∧ o.kind = (k : Int) ∧ o.name.length ≤ 16 ∧ o.text.length ≤ 64 ∧ (k = 8 → o.name = []) ∧ (¬ (k = 3 ∨ k = 5) → o.text = []) ∧ (¬ (k = 4 ∨ k = 6) → o.num = 0) ∧ (k ≠ 6 → o.most = 0) ∧ 0 ≤ o.num ∧ o.num ≤ 1099511627776 ∧ 0 ≤ o.most ∧ o.most ≤ 8 := by
  unfold chkO at h
  split at h
  · cases h
  split at h
  · cases h
  split at h
  · cases h
  split at h
  · cases h
  split at h
  · cases h
  split at h
  · cases h
  rename_i h1 h2 h3 h4 h5 h6
  obtain ⟨k, hk⟩ : ∃ k : Nat, o.kind = (k : Int) := ⟨o.kind.toNat, by omega⟩
  rw [hk] at h1 h2 h3 h4 h5 h6
  have hN : hasN (k : Int) = decide (k ≠ 8) := by
    unfold hasN
    by_cases h8 : k = 8
    · subst h8; decide
    · rw [decide_eq_true (by omega : (1 : Int) ≤ (k : Int)), decide_eq_true (by omega : (k : Int) ≤ 7), decide_eq_true h8]; rfl
  have hT : hasT (k : Int) = decide (k = 3 ∨ k = 5) := by
    unfold hasT
    by_cases h3 : k = 3
    · subst h3; decide
    by_cases h5 : k = 5
    · subst h5; decide
    rw [decide_eq_false (by omega), beq_eq_false_iff_ne.2 (by omega), beq_eq_false_iff_ne.2 (by omega)]; rfl
  have hK : hasK (k : Int) = decide (k = 4 ∨ k = 6) := by
    unfold hasK
    by_cases h3 : k = 4
    · subst h3; decide
    by_cases h5 : k = 6
    · subst h5; decide
    rw [decide_eq_false (by omega), beq_eq_false_iff_ne.2 (by omega), beq_eq_false_iff_ne.2 (by omega)]; rfl
  rw [hN] at h2 h6
  rw [hT] at h6
  rw [hK] at h4 h6
  simp only [decide_eq_true_eq, decide_eq_false_iff_not] at h2 h4 h6
  simp only [not_or, not_and, Decidable.not_not] at h1 h2 h3 h4 h5 h6
  obtain ⟨g1, g2, g3, g4⟩ := h6
  have t0 : ¬ (k = 3 ∨ k = 5) → o.text = [] := fun q => g2 (by omega)
  have n0 : ¬ (k = 4 ∨ k = 6) → o.num = 0 := fun q => g3 (by omega)
  have m0 : k ≠ 6 → o.most = 0 := fun q => g4 (by omega)
  have a0 : k = 8 → o.name = [] := fun q => g1 q
  refine ⟨k, by omega, by omega, hk, ?_, ?_, a0, t0, n0, m0, ?_, ?_, ?_, ?_⟩
  · by_cases q : k = 8
    · rw [a0 q]; simp
    · have := h2 q; omega
  · by_cases q3 : k = 3
    · have := h3.2 (by omega); omega
    by_cases q5 : k = 5
    · have := h3.1 (by omega); omega
    rw [t0 (by omega)]; simp
  · by_cases q : k = 4 ∨ k = 6
    · have := h4 q; omega
    · rw [n0 q]; omega
  · by_cases q : k = 4 ∨ k = 6
    · have := h4 q; omega
    · rw [n0 q]; omega
  · by_cases q : k = 6
    · have := h5 (by omega); omega
    · rw [m0 q]; omega
  · by_cases q : k = 6
    · have := h5 (by omega); omega
    · rw [m0 q]; omega
theorem op_len (o : OV) : (opW o).1.length ≤ 5 := by
  unfold opW
  split
  · simp
  · unfold fieldsW
    simp only [List.length_cons, List.length_append]
    have h : ∀ (b : Prop) [Decidable b] (x : List UInt8), (if b then [x] else []).length ≤ 1 := fun b _ x => by split <;> simp
    have h1 := h (o.kind ≠ 8) o.name
    have h2 := h (hasT o.kind = true) o.text
    have h3 := h (hasK o.kind = true) (Lib.decDigits o.num.toNat)
    have h4 := h (o.kind = 6) (Lib.decDigits o.most.toNat)
    omega
theorem op_back (o : OV) (ho : chkO o = 0) (behind : List (List UInt8)) : readO ((opW o).1 ++ behind) = (o, (opW o).1.length, 0) := by
  obtain ⟨k, h1, h8, hk, hn, ht, a0, t0, n0, m0, hn0, hn1, hm0, hm1⟩ := chk_op ho
  obtain ⟨kind, name, text, num, most⟩ := o
  dsimp only at *
  subst hk
  obtain ⟨nn, rfl⟩ : ∃ nn : Nat, num = (nn : Int) := ⟨num.toNat, by omega⟩
  obtain ⟨mm, rfl⟩ : ∃ mm : Nat, most = (mm : Int) := ⟨most.toNat, by omega⟩
  have e1 := num_dec nn (by omega)
  have e2 := num_dec mm (by omega)
  unfold opW
  rw [if_neg (fun q => q ho)]
  match k, h1, h8 with
  | 1, _, _ =>
    have hm : mm = 0 := by have := m0 (by omega); omega
    have hn : nn = 0 := by have := n0 (by omega); omega
    have ht := t0 (by omega)
    subst hm hn ht
    have hK : kindK [109, 97, 107, 101] = 1 := by decide
    simp [fieldsW, hasT, hasK, kindsL, readO, hK, manyK, layO]
    first | exact ho | exact if_pos ho | (rw [if_neg (by omega)]; exact if_pos ho)
  | 2, _, _ =>
    have hm : mm = 0 := by have := m0 (by omega); omega
    have hn : nn = 0 := by have := n0 (by omega); omega
    have ht := t0 (by omega)
    subst hm hn ht
    have hK : kindK [100, 114, 111, 112] = 2 := by decide
    simp [fieldsW, hasT, hasK, kindsL, readO, hK, manyK, layO]
    first | exact ho | exact if_pos ho | (rw [if_neg (by omega)]; exact if_pos ho)
  | 3, _, _ =>
    have hm : mm = 0 := by have := m0 (by omega); omega
    have hn : nn = 0 := by have := n0 (by omega); omega
    subst hm hn
    have hK : kindK [112, 117, 115, 104] = 3 := by decide
    simp [fieldsW, hasT, hasK, kindsL, readO, hK, manyK, layO]
    first | exact ho | exact if_pos ho | (rw [if_neg (by omega)]; exact if_pos ho)
  | 4, _, _ =>
    have hm : mm = 0 := by have := m0 (by omega); omega
    have ht := t0 (by omega)
    subst hm ht
    have hK : kindK [116, 114, 105, 109] = 4 := by decide
    simp [fieldsW, hasT, hasK, kindsL, readO, hK, manyK, layO, e1]
    first | exact ho | exact if_pos ho | (rw [if_neg (by omega)]; exact if_pos ho)
  | 5, _, _ =>
    have hm : mm = 0 := by have := m0 (by omega); omega
    have hn : nn = 0 := by have := n0 (by omega); omega
    subst hm hn
    have hK : kindK [116, 97, 107, 101] = 5 := by decide
    simp [fieldsW, hasT, hasK, kindsL, readO, hK, manyK, layO]
    first | exact ho | exact if_pos ho | (rw [if_neg (by omega)]; exact if_pos ho)
  | 6, _, _ =>
    have ht := t0 (by omega)
    subst ht
    have hK : kindK [114, 101, 97, 100] = 6 := by decide
    simp [fieldsW, hasT, hasK, kindsL, readO, hK, manyK, layO, e1, e2]
    first | exact ho | exact if_pos ho | (rw [if_neg (by omega)]; exact if_pos ho)
  | 7, _, _ =>
    have hm : mm = 0 := by have := m0 (by omega); omega
    have hn : nn = 0 := by have := n0 (by omega); omega
    have ht := t0 (by omega)
    subst hm hn ht
    have hK : kindK [99, 111, 117, 110, 116] = 7 := by decide
    simp [fieldsW, hasT, hasK, kindsL, readO, hK, manyK, layO]
    first | exact ho | exact if_pos ho | (rw [if_neg (by omega)]; exact if_pos ho)
  | 8, _, _ =>
    have hm : mm = 0 := by have := m0 (by omega); omega
    have hn : nn = 0 := by have := n0 (by omega); omega
    have ht := t0 (by omega)
    have ha := a0 rfl
    subst hm hn ht ha
    have hK : kindK [108, 105, 115, 116] = 8 := by decide
    simp [fieldsW, hasT, hasK, kindsL, readO, hK, manyK, layO]
    first | exact ho | exact if_pos ho | (rw [if_neg (by omega)]; exact if_pos ho)
end Go.Proofs.YtdhlbdllidfenaaDoor.Wd
