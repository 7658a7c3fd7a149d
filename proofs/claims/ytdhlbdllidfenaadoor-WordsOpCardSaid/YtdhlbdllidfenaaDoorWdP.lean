/- Words: Split gives back the words that Join took. No program here. Conditions: none. -/
import Derived.Test.YtdhlbdllidfenaaDoorWdM
namespace Go.Proofs.YtdhlbdllidfenaaDoor.Wd
set_option linter.unusedVariables false
set_option linter.unusedSimpArgs false
set_option maxRecDepth 100000 in
theorem dig_hex : ∀ n, n < 16 → digB (hexD n) = (n : Int) := by decide
theorem drop_here {l r : List UInt8} {i : Nat} {c : UInt8} (h : l.drop i = c :: r) : ∃ hi : i < l.length, l[i] = c ∧ l.drop (i + 1) = r := by
  obtain ⟨hi, h1, h2⟩ := drop_get (u := []) (r := r) (by rw [h]; rfl)
  exact ⟨hi, h1, h2⟩
theorem drop_at {l r : List UInt8} {i : Nat} {c : UInt8} (h : l.drop i = c :: r) : l[i]? = some c := by
  obtain ⟨hi, h1, _⟩ := drop_here h
  rw [List.getElem?_eq_getElem hi, h1]
theorem esc_back {l R : List UInt8} {i : Nat} {c : UInt8} (hc : c.toNat = 34 ∨ c.toNat = 92 ∨ c.toNat < 32 ∨ 126 < c.toNat) (h : l.drop i = wrB c ++ R) : escW l i = .ok c (i + (wrB c).length) ∧ ∃ hi : i < l.length, l[i].toNat = 92 := by
  unfold wrB at h ⊢
  split at h
  · rename_i hq
    obtain ⟨hi, h1, h2⟩ := drop_here h
    have h3 := drop_at h2
    rw [if_pos hq]
    refine ⟨?_, hi, by rw [h1]; rfl⟩
    unfold escW
    rw [h3]
    dsimp only
    rw [if_pos hq]
    rfl
  · rename_i hq
    rw [if_neg hq]
    split at h
    · rename_i hv
      rw [if_pos hv]
      obtain ⟨hi, h1, h2⟩ := drop_here h
      have a1 := drop_at h2
      obtain ⟨_, _, h3⟩ := drop_here h2
      have a2 := drop_at h3
      obtain ⟨_, _, h4⟩ := drop_here h3
      have a3 := drop_at h4
      refine ⟨?_, hi, by rw [h1]; rfl⟩
      have hlt : c.toNat < 256 := c.toNat_lt
      have d1 := dig_hex (c.toNat / 16) (by omega)
      have d2 := dig_hex (c.toNat % 16) (by omega)
      unfold escW
      rw [a1]
      dsimp only
      rw [if_neg (by decide), if_neg (by decide), show i + 2 = i + 1 + 1 from rfl, a2]
      dsimp only
      rw [if_neg (by rw [d1]; omega), show i + 3 = i + 1 + 1 + 1 from rfl, a3]
      dsimp only
      rw [if_neg (by rw [d2]; omega), d1, d2, if_neg (by omega)]
      have : (16 * ((c.toNat / 16 : Nat) : Int) + ((c.toNat % 16 : Nat) : Int)).toNat = c.toNat := by omega
      rw [this, UInt8.ofNat_toNat]
      rfl
    · omega
theorem quo_back {l R : List UInt8} {fr : Nat} : ∀ (y : List UInt8) (j : Nat) (acc : List UInt8), l.drop j = y.flatMap wrB ++ 34 :: R → isBare (acc ++ y) = false → quoW l fr j acc = .ok (acc ++ y) (j + (y.flatMap wrB).length + 1)
  | [], j, acc, h, hb => by
    obtain ⟨hi, h1, _⟩ := drop_here h
    rw [List.append_nil] at hb ⊢
    rw [quo_quote hi (by rw [h1]; rfl), if_neg (by rw [hb]; simp)]
    rfl
  | c :: y, j, acc, h, hb => by
    rw [List.flatMap_cons, List.append_assoc] at h
    have hb' : isBare ((acc ++ [c]) ++ y) = false := by rw [List.append_assoc]; exact hb
    have ih : ∀ j', l.drop j' = y.flatMap wrB ++ 34 :: R → quoW l fr j' (acc ++ [c]) = .ok (acc ++ [c] ++ y) (j' + (y.flatMap wrB).length + 1) := fun j' hj' => quo_back y j' (acc ++ [c]) hj' hb'
    rw [List.flatMap_cons, List.length_append]
    by_cases hq : c.toNat = 34 ∨ c.toNat = 92 ∨ c.toNat < 32 ∨ 126 < c.toNat
    · obtain ⟨h1, hi, h2⟩ := esc_back hq h
      rw [quo_esc hi h2, h1]
      dsimp only
      rw [ih (j + (wrB c).length) (by rw [← List.drop_drop, h, List.drop_left]), List.append_assoc, show j + (wrB c).length + (List.flatMap wrB y).length + 1 = j + ((wrB c).length + (List.flatMap wrB y).length) + 1 by omega]
      rfl
    · have hw : wrB c = [c] := by unfold wrB; rw [if_neg (by omega), if_neg (by omega)]
      rw [hw] at h ⊢
      obtain ⟨hi, h1, h2⟩ := drop_here h
      rw [quo_other hi (by rw [h1]; omega) (by rw [h1]; omega) (by rw [h1]; omega) (by rw [h1]; omega), h1, ih (j + 1) h2, List.append_assoc, show j + 1 + (List.flatMap wrB y).length + 1 = j + ([c].length + (List.flatMap wrB y).length) + 1 by simp; omega]
      rfl
theorem take_bare : ∀ {x R : List UInt8}, x.all bareB = true → (∀ c r, R = c :: r → bareB c = false) → (x ++ R).takeWhile bareB = x
  | [], R, _, hR => by
    match R with
    | [] => rfl
    | c :: r => rw [List.nil_append, List.takeWhile_cons, if_neg (by rw [hR c r rfl]; simp)]
  | a :: x, R, h, hR => by
    rw [List.all_cons, Bool.and_eq_true] at h
    rw [List.cons_append, List.takeWhile_cons, if_pos h.1, take_bare h.2 hR]
theorem one_back {l R x : List UInt8} {i : Nat} (h : l.drop i = wrW x ++ R) (hR : ∀ c r, R = c :: r → c = 32) : oneW l i = .ok x (i + (wrW x).length) ∧ ∃ hi : i < l.length, l[i].toNat ≠ 32 := by
  by_cases hb : isBare x = true
  · have hw : wrW x = x := by unfold wrW; rw [if_pos hb]
    rw [hw] at h ⊢
    unfold isBare at hb
    rw [Bool.and_eq_true] at hb
    obtain ⟨a, x', rfl⟩ : ∃ a x', x = a :: x' := by
      cases x with
      | nil => exact absurd hb.2 (by decide)
      | cons a x' => exact ⟨a, x', rfl⟩
    obtain ⟨hi, h1, _⟩ := drop_here (l := l) (i := i) (c := a) (r := x' ++ R) h
    have ha : bareB a = true := List.all_eq_true.1 hb.1 a (List.mem_cons_self ..)
    have hn := bare_ne ha
    have ht : (l.drop i).takeWhile bareB = a :: x' := by rw [h]; exact take_bare hb.1 (fun c r e => by rw [hR c r e]; decide)
    have he : bareEnd l i = i + (a :: x').length := by unfold bareEnd; rw [ht]
    refine ⟨?_, hi, by rw [h1]; exact hn.1⟩
    unfold oneW
    rw [if_neg (by rw [List.getD_eq_getElem?_getD, List.getElem?_eq_getElem hi, h1]; exact hn.2.1), he, if_neg (by rw [List.length_cons]; omega), Nat.add_sub_cancel_left, h, List.take_left']
    rfl
  · have hb' : isBare x = false := by simpa using hb
    have hw : wrW x = 34 :: x.flatMap wrB ++ [34] := by unfold wrW; rw [if_neg hb]
    rw [hw] at h ⊢
    rw [List.append_assoc, List.cons_append] at h
    obtain ⟨hi, h1, h2⟩ := drop_here h
    refine ⟨?_, hi, by rw [h1]; decide⟩
    unfold oneW
    rw [if_pos (by rw [List.getD_eq_getElem?_getD, List.getElem?_eq_getElem hi, h1]; rfl)]
    have := quo_back (l := l) (fr := i) (R := R) x (i + 1) [] h2 hb'
    rw [this, List.nil_append, List.cons_append, List.length_cons, List.length_append, List.length_singleton]
    congr 1
    omega
theorem split_back {l : List UInt8} : ∀ (ws : List (List UInt8)) (i : Nat) (out : List (List UInt8)), l.drop i = joinL ws → splitW l i out = (out ++ ws, 0, 0)
  | [], i, out, h => by
    rw [joinL_nil] at h
    have : l.length ≤ i := by
      have := congrArg List.length h
      rw [List.length_drop, List.length_nil] at this
      omega
    rw [split_end this, List.append_nil]
  | [x], i, out, h => by
    rw [joinL_cons] at h
    obtain ⟨h1, hi, h2⟩ := one_back h (fun c r e => by simp [Lib.joinTail] at e)
    have he : l.length ≤ i + (wrW x).length := by
      have := congrArg List.length h
      simp [Lib.joinTail] at this
      omega
    rw [split_one hi h2, h1]
    dsimp only
    rw [if_neg (by omega), split_end he]
  | x :: y :: r, i, out, h => by
    have hj : joinL (x :: y :: r) = wrW x ++ 32 :: joinL (y :: r) := by
      rw [joinL_cons, joinL_cons]
      simp [Lib.joinTail, List.append_assoc]
    rw [hj] at h
    obtain ⟨h1, hi, h2⟩ := one_back h (fun c r e => by injection e with e _; exact e.symm)
    have hd : l.drop (i + (wrW x).length) = 32 :: joinL (y :: r) := by rw [← List.drop_drop, h, List.drop_left]
    obtain ⟨hi2, h3, h4⟩ := drop_here hd
    rw [split_one hi h2, h1]
    dsimp only
    rw [if_neg (by
      rw [List.getD_eq_getElem?_getD, List.getElem?_eq_getElem hi2, h3]
      exact fun z => z.2 rfl), split_blank hi2 (by rw [h3]; rfl), split_back (y :: r) _ (out ++ [x]) h4, List.append_assoc]
    rfl
theorem join_back (ws : List (List UInt8)) : splitL (joinL ws) = if 8192 < (joinL ws).length then ([], 0, 160) else (ws, 0, 0) := by
  unfold splitL
  split
  · rfl
  · rw [split_back (l := joinL ws) ws 0 [] (by rw [List.drop_zero])]; rfl
end Go.Proofs.YtdhlbdllidfenaaDoor.Wd
