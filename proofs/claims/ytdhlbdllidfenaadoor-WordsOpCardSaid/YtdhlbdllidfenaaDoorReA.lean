/- Words: results as words, and back, in plain terms. No program here. Conditions: none. -/
import Derived.Test.YtdhlbdllidfenaaDoorNuA
namespace Go.Proofs.YtdhlbdllidfenaaDoor.Wd
open Go.Proofs.YtdhlbdllidfenaaDoor.Nu (numL num_dec num_is)
set_option linter.unusedVariables false
set_option linter.unusedSimpArgs false
def codesL : List (List UInt8) := [[100, 111, 110, 101], [110, 111, 110, 101], [116, 104, 101, 114, 101], [102, 117, 108, 108], [101, 109, 112, 116, 121]]
def longB (items : List (List UInt8)) : Bool := items.any (fun x => decide (64 < x.length))
structure RV where (code num : Int) (items : List (List UInt8))
def chkR (x : RV) : Int :=
  if x.code < 0 ∨ 4 < x.code then 50
  else if x.code ≠ 0 ∧ (x.num ≠ 0 ∨ 0 < x.items.length) then 55
  else if x.num < 0 ∨ 1099511627776 < x.num then 53
  else if 8 < x.items.length then 54
  else if longB x.items = true then 52
  else 0
def resW (x : RV) : List (List UInt8) × Int :=
  if chkR x ≠ 0 then ([], chkR x)
  else if x.code = 0 then ([100, 111, 110, 101] :: Lib.decDigits x.num.toNat :: Lib.decDigits x.items.length :: x.items, 0)
  else ([codesL.getD x.code.toNat []], 0)
def idxL : List (List UInt8) → Nat → List UInt8 → Int
  | [], _, _ => -1
  | x :: r, k, s => if x = s then (k : Int) else idxL r (k + 1) s
def rv0 : RV := ⟨0, 0, []⟩
def readR (l : List (List UInt8)) : RV × Nat × Int :=
  match l with
  | [] => (rv0, 0, 162)
  | w :: r =>
    if idxL codesL 0 w < 0 then (rv0, 0, 163)
    else if idxL codesL 0 w ≠ 0 then (⟨idxL codesL 0 w, 0, []⟩, 1, 0)
    else match r with
      | [] => (rv0, 0, 162)
      | a :: r =>
        match numL a with
        | none => (rv0, 0, 163)
        | some n =>
          match r with
          | [] => (rv0, 0, 162)
          | b :: r =>
            match numL b with
            | none => (rv0, 0, 163)
            | some m => if r.length < m then (rv0, 0, 162) else if chkR ⟨0, (n : Int), r.take m⟩ ≠ 0 then (rv0, 0, chkR ⟨0, (n : Int), r.take m⟩) else (⟨0, (n : Int), r.take m⟩, 3 + m, 0)
theorem idx_codes (w : List UInt8) : (idxL codesL 0 w = -1 ∧ ∀ k, k < 5 → codesL.getD k [] ≠ w) ∨ ∃ k : Nat, k < 5 ∧ idxL codesL 0 w = (k : Int) ∧ codesL.getD k [] = w := by
  simp only [codesL, idxL]
  by_cases h0 : [100, 111, 110, 101] = w
  · exact .inr ⟨0, by omega, by rw [if_pos h0], h0⟩
  rw [if_neg h0]
  by_cases h1 : [110, 111, 110, 101] = w
  · exact .inr ⟨1, by omega, by rw [if_pos h1], h1⟩
  rw [if_neg h1]
  by_cases h2 : [116, 104, 101, 114, 101] = w
  · exact .inr ⟨2, by omega, by rw [if_pos h2], h2⟩
  rw [if_neg h2]
  by_cases h3 : [102, 117, 108, 108] = w
  · exact .inr ⟨3, by omega, by rw [if_pos h3], h3⟩
  rw [if_neg h3]
  by_cases h4 : [101, 109, 112, 116, 121] = w
  · exact .inr ⟨4, by omega, by rw [if_pos h4], h4⟩
  rw [if_neg h4]
  refine .inl ⟨rfl, fun k hk => ?_⟩
  match k, hk with
  | 0, _ => exact h0
  | 1, _ => exact h1
  | 2, _ => exact h2
  | 3, _ => exact h3
  | 4, _ => exact h4
theorem idx_at : ∀ k : Nat, k < 5 → idxL codesL 0 (codesL.getD k []) = (k : Int)
  | 0, _ => by decide
  | 1, _ => by decide
  | 2, _ => by decide
  | 3, _ => by decide
  | 4, _ => by decide
/-- what the loop over the codes has found -/
def seenC : Nat → List UInt8 → Int
  | 0, _ => -1
  | j + 1, w => if codesL.getD j [] = w then (j : Int) else seenC j w
theorem seen_no {w : List UInt8} : ∀ j, (∀ k, k < j → codesL.getD k [] ≠ w) → seenC j w = -1
  | 0, _ => rfl
  | j + 1, h => by
    show (if _ then _ else _) = _
    rw [if_neg (h j (by omega))]
    exact seen_no j (fun k hk => h k (by omega))
theorem seen_all (w : List UInt8) : seenC 5 w = idxL codesL 0 w := by
  rcases idx_codes w with ⟨h1, h2⟩ | ⟨k, hk, h1, rfl⟩
  · rw [h1]; exact seen_no 5 h2
  · rw [h1]
    match k, hk with
    | 0, _ => decide
    | 1, _ => decide
    | 2, _ => decide
    | 3, _ => decide
    | 4, _ => decide
theorem chk_ok {x : RV} (h : chkR x = 0) : 0 ≤ x.code ∧ x.code ≤ 4 ∧ (x.code ≠ 0 → x.num = 0 ∧ x.items = []) ∧ 0 ≤ x.num ∧ x.num ≤ 1099511627776 ∧ x.items.length ≤ 8 := by
  unfold chkR at h
  split at h
  · cases h
  split at h
  · cases h
  split at h
  · cases h
  split at h
  · cases h
  rename_i h1 h2 h3 h4
  refine ⟨by omega, by omega, fun hc => ?_, by omega, by omega, by omega⟩
  have : ¬ (x.num ≠ 0 ∨ 0 < x.items.length) := fun q => h2 ⟨hc, q⟩
  refine ⟨by omega, ?_⟩
  exact List.eq_nil_of_length_eq_zero (by omega)
theorem res_len (x : RV) : (resW x).1.length ≤ 11 := by
  unfold resW
  by_cases h : chkR x = 0
  · rw [if_neg (fun q => q h)]
    have := (chk_ok h).2.2.2.2.2
    split
    · simp only [List.length_cons]; omega
    · simp
  · rw [if_pos h]; simp
theorem read_items (l : List (List UInt8)) : (readR l).1.items.length ≤ 8 ∧ (readR l).2.1 ≤ l.length := by
  unfold readR
  repeat' split
  all_goals first
    | exact ⟨show (0 : Nat) ≤ 8 by omega, Nat.zero_le _⟩
    | exact ⟨show (0 : Nat) ≤ 8 by omega, Nat.succ_le_succ (Nat.zero_le _)⟩
    | skip
  rename_i h1 h2
  have := (chk_ok (Decidable.not_not.1 h2)).2.2.2.2.2
  refine ⟨this, ?_⟩
  simp only [List.length_cons]
  omega
theorem read_neg {u : List UInt8} {r : List (List UInt8)} (h : idxL codesL 0 u = -1) : readR (u :: r) = (rv0, 0, 163) := by
  unfold readR
  dsimp only
  rw [h]; rfl
theorem read_code {u : List UInt8} {r : List (List UInt8)} {j : Nat} (h : idxL codesL 0 u = (j : Int)) (hj : j ≠ 0) : readR (u :: r) = (⟨(j : Int), 0, []⟩, 1, 0) := by
  unfold readR
  dsimp only
  rw [h, if_neg (by omega), if_pos (by omega)]
theorem read_one {u : List UInt8} (h : idxL codesL 0 u = 0) : readR [u] = (rv0, 0, 162) := by
  unfold readR
  dsimp only
  rw [h]; rfl
theorem read_anone {u a : List UInt8} {r : List (List UInt8)} (h : idxL codesL 0 u = 0) (ha : numL a = none) : readR (u :: a :: r) = (rv0, 0, 163) := by
  unfold readR
  dsimp only
  rw [h, ha]; rfl
theorem read_two {u a : List UInt8} {n : Nat} (h : idxL codesL 0 u = 0) (ha : numL a = some n) : readR [u, a] = (rv0, 0, 162) := by
  unfold readR
  dsimp only
  rw [h, ha]; rfl
theorem read_bnone {u a b : List UInt8} {n : Nat} {r : List (List UInt8)} (h : idxL codesL 0 u = 0) (ha : numL a = some n) (hb : numL b = none) : readR (u :: a :: b :: r) = (rv0, 0, 163) := by
  unfold readR
  dsimp only
  rw [h, ha]
  dsimp only
  rw [hb]; rfl
theorem read_full {u a b : List UInt8} {n m : Nat} {r : List (List UInt8)} (h : idxL codesL 0 u = 0) (ha : numL a = some n) (hb : numL b = some m) : readR (u :: a :: b :: r) = if r.length < m then (rv0, 0, 162) else if chkR ⟨0, (n : Int), r.take m⟩ ≠ 0 then (rv0, 0, chkR ⟨0, (n : Int), r.take m⟩) else (⟨0, (n : Int), r.take m⟩, 3 + m, 0) := by
  unfold readR
  dsimp only
  rw [h, ha]
  dsimp only
  rw [hb, if_neg (by omega), if_neg (by omega)]
theorem read_back (x : RV) (hx : chkR x = 0) (behind : List (List UInt8)) : readR ((resW x).1 ++ behind) = (x, (resW x).1.length, 0) := by
  obtain ⟨h1, h2, h3, h4, h5, h6⟩ := chk_ok hx
  obtain ⟨code, num, items⟩ := x
  dsimp only at *
  unfold resW
  rw [if_neg (fun q => q hx)]
  dsimp only
  by_cases hc : code = 0
  · subst hc
    rw [if_pos rfl]
    obtain ⟨n, rfl⟩ : ∃ n : Nat, num = (n : Int) := ⟨num.toNat, by omega⟩
    have e0 : idxL codesL 0 [100, 111, 110, 101] = 0 := by decide
    simp only [List.cons_append, Int.toNat_natCast]
    unfold readR
    simp only [e0, num_dec n (by omega), num_dec items.length (by omega)]
    rw [if_neg (by omega), if_neg (fun q => q rfl), if_neg (by rw [List.length_append]; omega), List.take_left' rfl, if_neg (fun q => q hx)]
    simp only [List.length_cons]
    congr 2
    omega
  · rw [if_neg hc]
    obtain ⟨rfl, rfl⟩ := h3 hc
    obtain ⟨k, rfl⟩ : ∃ k : Nat, code = (k : Int) := ⟨code.toNat, by omega⟩
    have e := idx_at k (by omega)
    simp only [List.cons_append, Int.toNat_natCast]
    unfold readR
    simp only [e]
    rw [if_neg (by omega), if_pos hc]
    rfl
theorem read_written {l : List (List UInt8)} {x : RV} {k : Nat} (h : readR l = (x, k, 0)) : resW x = (l.take k, 0) := by
  unfold readR at h
  split at h
  · simp at h
  rename_i w r
  split at h
  · simp at h
  rename_i hw0
  split at h
  · rename_i hw
    simp only [Prod.mk.injEq] at h
    obtain ⟨rfl, rfl, _⟩ := h
    rcases idx_codes w with ⟨e, _⟩ | ⟨j, hj, e, rfl⟩
    · omega
    rw [e] at hw ⊢
    have hc : chkR ⟨(j : Int), 0, []⟩ = 0 := by
      unfold chkR
      rw [if_neg (by dsimp only; omega), if_neg (by simp), if_neg (by simp), if_neg (by simp), if_neg (by simp [longB])]
    unfold resW
    rw [if_neg (fun q => q hc), if_neg hw]
    simp
  rename_i hw
  have hwd : w = [100, 111, 110, 101] := by
    rcases idx_codes w with ⟨e, _⟩ | ⟨j, hj, e, rfl⟩
    · omega
    · obtain rfl : j = 0 := by omega
      rfl
  split at h
  · simp at h
  rename_i a r
  split at h
  · simp at h
  rename_i n hn
  split at h
  · simp at h
  rename_i b r
  split at h
  · simp at h
  rename_i m hm
  split at h
  · simp at h
  rename_i hrm
  split at h
  · rename_i hc
    simp only [Prod.mk.injEq] at h
    exact absurd h.2.2 hc
  rename_i hc
  simp only [Prod.mk.injEq] at h
  obtain ⟨rfl, rfl, _⟩ := h
  have ha := num_is _ a n (Nat.le_refl _) hn
  have hb := num_is _ b m (Nat.le_refl _) hm
  have hl : (r.take m).length = m := by rw [List.length_take]; omega
  unfold resW
  rw [if_neg hc, if_pos rfl]
  dsimp only
  rw [hl, Int.toNat_natCast, ← ha, ← hb, hwd]
  rw [show 3 + m = m + 1 + 1 + 1 by omega]
  simp only [List.take_succ_cons]
end Go.Proofs.YtdhlbdllidfenaaDoor.Wd
