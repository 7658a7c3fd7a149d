/- Words: what ReadOp takes, Op writes just so, in plain terms. No program here. Conditions: none. -/
import Derived.Test.YtdhlbdllidfenaaDoorOpA
namespace Go.Proofs.YtdhlbdllidfenaaDoor.Wd
open Go.Proofs.YtdhlbdllidfenaaDoor.Nu (numL num_dec num_is)
set_option linter.unusedVariables false
set_option linter.unusedSimpArgs false
theorem kind_cases (w : List UInt8) : kindK w = -1 ∨ ∃ k : Nat, 1 ≤ k ∧ k ≤ 8 ∧ kindK w = (k : Int) ∧ kindsL.getD k [] = w := by
  unfold kindK
  simp only [kindsL, List.drop_succ_cons, List.drop_zero, idxL]
  by_cases h1 : [109, 97, 107, 101] = w
  · exact .inr ⟨1, by omega, by omega, by rw [if_pos h1], h1⟩
  rw [if_neg h1]
  by_cases h2 : [100, 114, 111, 112] = w
  · exact .inr ⟨2, by omega, by omega, by rw [if_pos h2], h2⟩
  rw [if_neg h2]
  by_cases h3 : [112, 117, 115, 104] = w
  · exact .inr ⟨3, by omega, by omega, by rw [if_pos h3], h3⟩
  rw [if_neg h3]
  by_cases h4 : [116, 114, 105, 109] = w
  · exact .inr ⟨4, by omega, by omega, by rw [if_pos h4], h4⟩
  rw [if_neg h4]
  by_cases h5 : [116, 97, 107, 101] = w
  · exact .inr ⟨5, by omega, by omega, by rw [if_pos h5], h5⟩
  rw [if_neg h5]
  by_cases h6 : [114, 101, 97, 100] = w
  · exact .inr ⟨6, by omega, by omega, by rw [if_pos h6], h6⟩
  rw [if_neg h6]
  by_cases h7 : [99, 111, 117, 110, 116] = w
  · exact .inr ⟨7, by omega, by omega, by rw [if_pos h7], h7⟩
  rw [if_neg h7]
  by_cases h8 : [108, 105, 115, 116] = w
  · exact .inr ⟨8, by omega, by omega, by rw [if_pos h8], h8⟩
  rw [if_neg h8]
  exact .inl rfl
theorem many_pos (k : Nat) : 1 ≤ manyK k ∧ manyK k ≤ 4 := by
  unfold manyK
  repeat' split
  all_goals omega
theorem reado_len (l : List (List UInt8)) : (readO l).2.1 ≤ l.length := by
  unfold readO
  split
  · simp
  · split
    · simp
    · split
      · simp
      · split
        · simp
        · split
          · simp
          · simp only [List.length_cons]; omega
theorem op_written {l : List (List UInt8)} {o : OV} {k : Nat} (h : readO l = (o, k, 0)) : opW o = (l.take k, 0) := by
  unfold readO at h
  split at h
  · simp at h
  rename_i w r
  split at h
  · simp at h
  rename_i hw0
  split at h
  · simp at h
  rename_i hmany
  split at h
  · simp at h
  rename_i o' hlay
  split at h
  · rename_i hc
    simp only [Prod.mk.injEq] at h
    exact absurd h.2.2 hc
  rename_i hc
  have hc := Decidable.not_not.1 hc
  simp only [Prod.mk.injEq] at h
  obtain ⟨rfl, rfl, _⟩ := h
  rcases kind_cases w with e | ⟨j, j1, j8, e, hj⟩
  · omega
  rw [e, Int.toNat_natCast] at hmany hlay ⊢
  subst hj
  unfold opW
  rw [if_neg (fun q => q hc)]
  have two : 2 ≤ r.length → r = r.getD 0 [] :: r.getD 1 [] :: r.drop 2 := fun h => by
    match r, h with
    | a :: b :: r, _ => rfl
  have one : 1 ≤ r.length → r = r.getD 0 [] :: r.drop 1 := fun h => by
    match r, h with
    | a :: r, _ => rfl
  have three : 3 ≤ r.length → r = r.getD 0 [] :: r.getD 1 [] :: r.getD 2 [] :: r.drop 3 := fun h => by
    match r, h with
    | a :: b :: c :: r, _ => rfl
  match j, j1, j8 with
  | 1, _, _ =>
    simp only [layO, manyK] at hlay hmany ⊢
    simp at hlay hmany
    subst hlay
    have h1 := one (by omega)
    rw [h1]
    simp [fieldsW, hasT, hasK, kindsL]
  | 2, _, _ =>
    simp only [layO, manyK] at hlay hmany ⊢
    simp at hlay hmany
    subst hlay
    have h1 := one (by omega)
    rw [h1]
    simp [fieldsW, hasT, hasK, kindsL]
  | 3, _, _ =>
    simp only [layO, manyK] at hlay hmany ⊢
    simp at hlay hmany
    subst hlay
    have h1 := two (by omega)
    rw [h1]
    simp [fieldsW, hasT, hasK, kindsL]
  | 4, _, _ =>
    simp only [manyK] at hmany ⊢
    simp at hmany
    have h1 := two (by omega)
    rcases hn : numL (r.getD 1 []) with _ | n
    · unfold layO at hlay
      rw [if_neg (by decide), if_neg (by decide), if_pos rfl, hn] at hlay
      cases hlay
    · unfold layO at hlay
      rw [if_neg (by decide), if_neg (by decide), if_pos rfl, hn] at hlay
      obtain rfl := Option.some.inj hlay
      have hd := num_is _ _ n (Nat.le_refl _) hn
      rw [h1]
      simp [fieldsW, hasT, hasK, kindsL]
      simpa using hd.symm
  | 5, _, _ =>
    simp only [layO, manyK] at hlay hmany ⊢
    simp at hlay hmany
    subst hlay
    have h1 := two (by omega)
    rw [h1]
    simp [fieldsW, hasT, hasK, kindsL]
  | 6, _, _ =>
    simp only [manyK] at hmany ⊢
    simp at hmany
    have h1 := three (by omega)
    unfold layO at hlay
    rw [if_neg (by decide), if_neg (by decide), if_neg (by decide), if_pos rfl] at hlay
    rcases hn : numL (r.getD 1 []) with _ | n
    · rw [hn] at hlay
      cases hlay
    · rw [hn] at hlay
      rcases hm : numL (r.getD 2 []) with _ | m
      · rw [show (some n).bind (fun n => (numL (r.getD 2 [])).map fun m => (⟨((6 : Nat) : Int), r.getD 0 [], [], (n : Int), (m : Int)⟩ : OV)) = (numL (r.getD 2 [])).map fun m => (⟨((6 : Nat) : Int), r.getD 0 [], [], (n : Int), (m : Int)⟩ : OV) from rfl] at hlay
        rw [hm] at hlay
        cases hlay
      · rw [show (some n).bind (fun n => (numL (r.getD 2 [])).map fun m => (⟨((6 : Nat) : Int), r.getD 0 [], [], (n : Int), (m : Int)⟩ : OV)) = (numL (r.getD 2 [])).map fun m => (⟨((6 : Nat) : Int), r.getD 0 [], [], (n : Int), (m : Int)⟩ : OV) from rfl] at hlay
        rw [hm] at hlay
        obtain rfl := Option.some.inj hlay
        have hd := num_is _ _ n (Nat.le_refl _) hn
        have hd2 := num_is _ _ m (Nat.le_refl _) hm
        rw [h1]
        simp [fieldsW, hasT, hasK, kindsL]
        exact ⟨by simpa using hd.symm, by simpa using hd2.symm⟩
  | 7, _, _ =>
    simp only [layO, manyK] at hlay hmany ⊢
    simp at hlay hmany
    subst hlay
    have h1 := one (by omega)
    rw [h1]
    simp [fieldsW, hasT, hasK, kindsL]
  | 8, _, _ =>
    simp only [layO, manyK] at hlay hmany ⊢
    simp at hlay hmany
    subst hlay
    simp [fieldsW, hasT, hasK, kindsL]
end Go.Proofs.YtdhlbdllidfenaaDoor.Wd
