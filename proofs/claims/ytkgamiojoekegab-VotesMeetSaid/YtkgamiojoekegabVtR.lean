/- What holds of the point: a majority has reached it, nothing above it; it never falls where a number rises. No program here. Conditions: none. -/
import Derived.Test.YtkgamiojoekegabVtQ
namespace Go.Proofs.Ytkgamiojoekegab.Vt
open Go.RowKit Go.Proofs.YtkgamiojoekegabW.PrintWords Go.Proofs.Ytkgamiojoekegab.PVotesConfigs
set_option linter.unusedVariables false

def PInv (m : Int) (l pre : List Int) (s : Int × Bool) : Prop := (s.2 = true ∧ m ≤ (mny l s.1 : Int) ∧ ∀ k ∈ pre, m ≤ (mny l k : Int) → k ≤ s.1) ∨ (s.2 = false ∧ ∀ k ∈ pre, ¬ m ≤ (mny l k : Int))
theorem pst_inv (m : Int) (l pre : List Int) (s : Int × Bool) (k : Int) (h : PInv m l pre s) : PInv m l (pre ++ [k]) (pst m l s k) := by
  unfold pst
  by_cases c1 : m ≤ (mny l k : Int)
  · rw [if_pos c1]
    rcases h with ⟨h0, h1, h2⟩ | ⟨h0, h1⟩
    · rw [if_pos h0]
      by_cases c2 : s.1 < k
      · rw [if_pos c2]
        refine .inl ⟨rfl, c1, fun x hx hm => ?_⟩
        rcases List.mem_append.1 hx with hx | hx
        · have := h2 x hx hm
          show x ≤ k
          omega
        · rw [List.mem_singleton] at hx; subst hx; exact Int.le_refl _
      · rw [if_neg c2]
        refine .inl ⟨h0, h1, fun x hx hm => ?_⟩
        rcases List.mem_append.1 hx with hx | hx
        · exact h2 x hx hm
        · rw [List.mem_singleton] at hx; subst hx; omega
    · rw [if_neg (by rw [h0]; decide)]
      refine .inl ⟨rfl, c1, fun x hx hm => ?_⟩
      rcases List.mem_append.1 hx with hx | hx
      · exact absurd hm (h1 x hx)
      · rw [List.mem_singleton] at hx; subst hx; exact Int.le_refl _
  · rw [if_neg c1]
    rcases h with ⟨h0, h1, h2⟩ | ⟨h0, h1⟩
    · refine .inl ⟨h0, h1, fun x hx hm => ?_⟩
      rcases List.mem_append.1 hx with hx | hx
      · exact h2 x hx hm
      · rw [List.mem_singleton] at hx; subst hx; exact absurd hm c1
    · refine .inr ⟨h0, fun x hx => ?_⟩
      rcases List.mem_append.1 hx with hx | hx
      · exact h1 x hx
      · rw [List.mem_singleton] at hx; subst hx; exact c1
theorem fold_inv (m : Int) (l : List Int) : ∀ (r pre : List Int) (s : Int × Bool), PInv m l pre s → PInv m l (pre ++ r) (r.foldl (pst m l) s)
  | [], pre, s, h => by simpa using h
  | k :: r, pre, s, h => by
    rw [List.foldl_cons, show pre ++ k :: r = (pre ++ [k]) ++ r by simp]
    exact fold_inv m l r _ _ (pst_inv m l pre s k h)
theorem least (p : Int) : ∀ l : List Int, (∃ x ∈ l, p ≤ x) → ∃ k ∈ l, p ≤ k ∧ ∀ x ∈ l, p ≤ x → k ≤ x
  | [], h => by obtain ⟨x, hx, _⟩ := h; cases hx
  | y :: r, h => by
    by_cases hr : ∃ x ∈ r, p ≤ x
    · obtain ⟨k, hk, h1, h2⟩ := least p r hr
      by_cases hy : p ≤ y ∧ y < k
      · refine ⟨y, by simp, hy.1, fun x hx hp => ?_⟩
        rcases List.mem_cons.1 hx with rfl | hx
        · exact Int.le_refl _
        · have := h2 x hx hp; omega
      · refine ⟨k, by simp [hk], h1, fun x hx hp => ?_⟩
        rcases List.mem_cons.1 hx with rfl | hx
        · omega
        · exact h2 x hx hp
    · obtain ⟨x, hx, hp⟩ := h
      rcases List.mem_cons.1 hx with rfl | hx
      · refine ⟨x, by simp, hp, fun z hz hpz => ?_⟩
        rcases List.mem_cons.1 hz with rfl | hz
        · exact Int.le_refl _
        · exact absurd ⟨z, hz, hpz⟩ hr
      · exact absurd ⟨x, hx, hp⟩ hr
theorem mny_least (l : List Int) (p : Int) (h : 0 < mny l p) : ∃ k ∈ l, p ≤ k ∧ mny l k = mny l p := by
  obtain ⟨x, hx, hp⟩ := List.countP_pos_iff.1 h
  obtain ⟨k, hk, h1, h2⟩ := least p l ⟨x, hx, by simpa using hp⟩
  refine ⟨k, hk, h1, ?_⟩
  unfold mny
  refine List.countP_congr fun x hx => ?_
  simp only [decide_eq_true_eq]
  exact ⟨fun h => by omega, fun h => h2 x hx h⟩
/-- what a majority comes up to is no greater than the point -/
theorem point_ge (m : Int) (l : List Int) (p : Int) (hm : 1 ≤ m) (h : m ≤ (mny l p : Int)) : p ≤ pointS m l := by
  obtain ⟨k, hk, h1, h2⟩ := mny_least l p (by omega)
  have hI := fold_inv m l l [] (0, false) (.inr ⟨rfl, fun k hk => by cases hk⟩)
  rw [List.nil_append] at hI
  rcases hI with ⟨_, _, h3⟩ | ⟨_, h3⟩
  · have := h3 k hk (by omega)
    unfold pointS
    omega
  · exact absurd (by omega) (h3 k hk)
theorem bounded : ∀ l : List Int, ∃ b : Int, ∀ x ∈ l, b ≤ x
  | [] => ⟨0, fun x hx => by cases hx⟩
  | y :: r => by
    obtain ⟨b, hb⟩ := bounded r
    refine ⟨min b y, fun x hx => ?_⟩
    rcases List.mem_cons.1 hx with rfl | hx
    · exact Int.min_le_right _ _
    · have := hb x hx; have := Int.min_le_left b y; omega
/-- a majority comes up to the point -/
theorem point_reached (m : Int) (l : List Int) (hm : 1 ≤ m) (hl : m ≤ (l.length : Int)) : m ≤ (mny l (pointS m l) : Int) := by
  have hI := fold_inv m l l [] (0, false) (.inr ⟨rfl, fun k hk => by cases hk⟩)
  rw [List.nil_append] at hI
  rcases hI with ⟨_, h2, _⟩ | ⟨_, h3⟩
  · exact h2
  · exfalso
    obtain ⟨x0, hx0⟩ : ∃ x0, x0 ∈ l := by
      match l, hl with
      | [], hl => simp at hl; omega
      | x :: r, _ => exact ⟨x, by simp⟩
    obtain ⟨b, hb⟩ := bounded l
    have hall : mny l b = l.length := by
      unfold mny
      exact List.countP_eq_length.2 (fun x hx => by simpa using hb x hx)
    obtain ⟨k, hk, _, h4⟩ := mny_least l b (by rw [hall]; omega)
    exact h3 k hk (by rw [h4, hall]; omega)
/-- less than a majority is above the point -/
theorem point_above (m : Int) (l : List Int) (hm : 1 ≤ m) : ((l.countP (fun x => decide (pointS m l < x)) : Nat) : Int) < m := by
  refine Int.not_le.1 fun h => ?_
  have e : mny l (pointS m l + 1) = l.countP (fun x => decide (pointS m l < x)) := by
    unfold mny
    refine List.countP_congr fun x _ => ?_
    simp only [decide_eq_true_eq]
    exact ⟨fun h => by omega, fun h => by omega⟩
  have := point_ge m l (pointS m l + 1) hm (by rw [e]; exact h)
  omega
/-- the point does not fall where a number rises -/
theorem point_rise (m : Int) (l : List Int) (i : Nat) (v : Int) (hi : i < l.length) (hv : l[i] ≤ v) (hm : 1 ≤ m) (hl : m ≤ (l.length : Int)) : pointS m l ≤ pointS m (l.set i v) := by
  refine point_ge m _ _ hm (Int.le_trans (point_reached m l hm hl) ?_)
  unfold mny
  generalize pointS m l = p
  have h : l.countP (fun x => decide (p ≤ x)) ≤ (l.set i v).countP (fun x => decide (p ≤ x)) := by
    rw [List.set_eq_take_append_cons_drop, if_pos hi]
    conv => lhs; rw [← List.take_append_drop i l, List.drop_eq_getElem_cons hi]
    rw [List.countP_append, List.countP_append, List.countP_cons, List.countP_cons]
    have : (if decide (p ≤ l[i]) = true then 1 else 0) ≤ (if decide (p ≤ v) = true then 1 else 0) := by
      by_cases c : p ≤ l[i]
      · rw [if_pos (by simpa using c), if_pos (by simp; omega)]
        exact Nat.le_refl _
      · rw [if_neg (by simpa using c)]
        exact Nat.zero_le _
    omega
  omega
end Go.Proofs.Ytkgamiojoekegab.Vt
