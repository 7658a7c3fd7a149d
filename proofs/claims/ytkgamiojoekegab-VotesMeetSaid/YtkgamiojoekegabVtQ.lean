/- What votes.Point computes, said plainly. No program here. Conditions: lists of at most 100 places. -/
import Derived.Test.YtkgamiojoekegabVtP
namespace Go.Proofs.Ytkgamiojoekegab.Vt
open Go.RowKit Go.Proofs.YtkgamiojoekegabW.PrintWords Go.Proofs.Ytkgamiojoekegab.PVotesConfigs
set_option linter.unusedVariables false

/-- how many of a list come up to k -/
def mny (l : List Int) (k : Int) : Nat := l.countP (fun x => decide (k ≤ x))
/-- one step of the search for the greatest that m come up to -/
def pst (m : Int) (l : List Int) (s : Int × Bool) (k : Int) : Int × Bool := if m ≤ (mny l k : Int) then (if s.2 = true then (if s.1 < k then (k, true) else s) else (k, true)) else s
def pointS (m : Int) (l : List Int) : Int := (l.foldl (pst m l) (0, false)).1

theorem rd_atI (l : List Int) (k : Nat) (h : k < l.length) : rd l (k : Int) = l[k] := by
  simp [rd, h]
theorem dropI (l : List Int) (k : Nat) (h : k < l.length) : l.drop k = rd l (k : Int) :: l.drop (k + 1) := by
  rw [rd_atI l k h]; exact List.drop_eq_getElem_cons h
theorem w1 (i : Int) (h0 : 0 ≤ i) (h : i ≤ 1000) : wrap64 (i + 1) = i + 1 := by unfold wrap64; omega

theorem pl1 (n b : Int) (f : Bool) (l y : List Int) (x i len : Int) (hl : y.length ≤ 100) : ∀ (d j : Nat), y.length - j = d → j ≤ y.length → ∀ (k : Nat) (c : Int), 0 ≤ c → c ≤ j →
    votes_Point.l1 (k + d) n l b f x c l len i y (y.length : Int) (j : Int) = votes_Point.l1 k n l b f x (c + ((y.drop j).countP (fun v => decide (x ≤ v)) : Nat)) l len i y (y.length : Int) (y.length : Int) := by
  intro d
  induction d with
  | zero =>
    intro j hd hj k c h0 h1
    obtain rfl : j = y.length := by omega
    simp
  | succ d ih =>
    intro j hd hj k c h0 h1
    have hlt : j < y.length := by omega
    rw [show k + (d + 1) = (k + d) + 1 by omega, votes_Point.l1, if_pos (by omega), if_pos (by omega), if_pos (by omega), w1 (j : Int) (by omega) (by omega), dropI y j hlt, List.countP_cons]
    by_cases h : rd y (j : Int) ≥ x
    · rw [if_pos h, w1 c h0 (by omega)]
      have := ih (j + 1) (by omega) (by omega) k (c + 1) (by omega) (by omega)
      rw [show ((j + 1 : Nat) : Int) = (j : Int) + 1 by omega] at this
      rw [this]
      congr 1
      simp [h]
      omega
    · rw [if_neg h]
      have := ih (j + 1) (by omega) (by omega) k c h0 (by omega)
      rw [show ((j + 1 : Nat) : Int) = (j : Int) + 1 by omega] at this
      rw [this]
      congr 1
      simp [h]

theorem pl0 (n m : Int) (l : List Int) (hl : l.length ≤ 100) (hm : votes_Majority.f n = some m) : ∀ (d i : Nat), l.length - i = d → i ≤ l.length → ∀ (s : Int × Bool),
    ∃ k0, ∀ k, k0 ≤ k → votes_Point.l0 k n l s.1 s.2 l (l.length : Int) (i : Int) = some (((l.drop i).foldl (pst m l) s).1, 0) := by
  intro d
  induction d with
  | zero =>
    intro i hd hi s
    obtain rfl : i = l.length := by omega
    refine ⟨1, fun k hk => ?_⟩
    obtain ⟨q, rfl⟩ : ∃ q, k = q + 1 := ⟨k - 1, by omega⟩
    rw [votes_Point.l0, if_neg (by omega)]
    simp
  | succ d ih =>
    intro i hd hi s
    have hlt : i < l.length := by omega
    obtain ⟨k1, h1⟩ := ih (i + 1) (by omega) (by omega) (pst m l s (rd l (i : Int)))
    refine ⟨k1 + l.length + 2, fun k hk => ?_⟩
    obtain ⟨q, rfl⟩ : ∃ q, k = (q + 1 + (l.length - 0)) + 1 := ⟨k - l.length - 2, by omega⟩
    rw [votes_Point.l0, if_pos (by omega), if_pos (by omega), if_pos (by omega)]
    have e := pl1 n s.1 s.2 l l (rd l (i : Int)) (i : Int) (l.length : Int) hl (l.length - 0) 0 rfl (by omega) (q + 1) 0 (by omega) (by omega)
    rw [show ((0 : Nat) : Int) = 0 from rfl, List.drop_zero, Int.zero_add] at e
    rw [e, votes_Point.l1, if_neg (by omega), hm, Option.bind_some, w1 (i : Int) (by omega) (by omega), dropI l i hlt, List.foldl_cons]
    rw [show (i : Int) + 1 = ((i + 1 : Nat) : Int) by omega]
    have h2 := h1 q (by omega)
    rw [← h2]
    unfold pst mny
    by_cases c1 : m ≤ ((l.countP (fun v => decide (rd l (i : Int) ≤ v)) : Nat) : Int)
    · rw [if_pos (by omega), if_pos c1]
      by_cases c2 : s.2 = true
      · rw [if_pos c2, if_pos c2]
        by_cases c3 : s.1 < rd l (i : Int)
        · rw [if_pos (by omega), if_pos c3]
        · rw [if_neg (by omega), if_neg c3]
      · rw [if_neg c2, if_neg c2]
    · rw [if_neg (by omega), if_neg c1]

theorem point_f (n m : Int) (l : List Int) (hn : n = 3 ∨ n = 5 ∨ n = 7) (hl : (l.length : Int) = n) (hm : votes_Majority.f n = some m) : ∃ k, votes_Point.f k n l = some (pointS m l, 0) := by
  obtain ⟨k0, h⟩ := pl0 n m l (by omega) hm (l.length - 0) 0 rfl (by omega) (0, false)
  refine ⟨k0 + 1, ?_⟩
  have hf : fl n = true := by rcases hn with rfl | rfl | rfl <;> rfl
  unfold votes_Point.f
  rw [fl_f, hf, Option.bind_some, if_pos rfl, votes_Point.j0]
  have hne : ((l.length : Int) != n) = false := by simp [hl]
  rw [hne, if_neg (by decide)]
  exact h k0 (Nat.le_refl _)
theorem point_no (n : Int) (l : List Int) (h : fl n = false ∨ (l.length : Int) ≠ n) : votes_Point.f 9 n l = some (0, 40) := by
  unfold votes_Point.f
  rw [fl_f, Option.bind_some]
  by_cases hf : fl n = true
  · rw [if_pos hf, votes_Point.j0]
    have : (l.length : Int) ≠ n := by rcases h with h | h; (rw [hf] at h; cases h); exact h
    have hne : ((l.length : Int) != n) = true := by simp [this]
    rw [hne, if_pos rfl]
  · rw [if_neg hf, votes_Point.j0, if_pos rfl]
end Go.Proofs.Ytkgamiojoekegab.Vt
