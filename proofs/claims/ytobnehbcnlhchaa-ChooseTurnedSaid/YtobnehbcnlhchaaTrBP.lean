/- What the law ChooseKeeps asks of the plain answers: the best of a list is ahead of none behind it; a majority meets a majority. No program here. Conditions: none. -/
import Derived.Test.YtobnehbcnlhchaaTrBF
namespace Go.Proofs.Ytobnehbcnlhchaa.Be
open Go.RowKit Go.Proofs.YtobnehbcnlhchaaW.PrintWords Go.Proofs.Ytobnehbcnlhchaa.PChooseTurned
set_option linter.unusedVariables false

def reachesB (b : S62) (normal op : Int) : Bool := decide (normal < b.f1) || (b.f1 == normal && decide (op ≤ b.f2))

theorem fst_max (gt : S62 → S62 → Bool) (hi : ∀ x, gt x x = false) (ha : ∀ x y, gt x y = true → gt y x = false) (ht : ∀ x y z, gt x y = false → gt y z = false → gt x z = false) (l : List S62) : ∀ (k i b j : Nat),
    (j = b ∨ (i ≤ j ∧ j < i + k)) → gt (rd_T62 l (j : Int)) (rd_T62 l (fst gt l i b k : Int)) = false := by
  intro k
  induction k with
  | zero =>
    intro i b j hj
    obtain rfl : j = b := by omega
    exact hi _
  | succ k ih =>
    intro i b j hj
    rw [fst]
    by_cases hg : gt (rd_T62 l (i : Int)) (rd_T62 l (b : Int)) = true
    · rw [if_pos hg]
      rcases hj with rfl | hj
      · exact ht _ _ _ (ha _ _ hg) (ih (i + 1) i i (.inl rfl))
      · by_cases hji : j = i
        · exact ih (i + 1) i j (.inl hji)
        · exact ih (i + 1) i j (.inr (by omega))
    · rw [if_neg hg]
      have hg' : gt (rd_T62 l (i : Int)) (rd_T62 l (b : Int)) = false := by simpa using hg
      rcases hj with rfl | hj
      · exact ih (i + 1) _ _ (.inl rfl)
      · by_cases hji : j = i
        · subst hji; exact ht _ _ _ hg' (ih (j + 1) b b (.inl rfl))
        · exact ih (i + 1) b j (.inr (by omega))
theorem best_max (l : List S62) (j : Nat) (hj : j < l.length) : better (rd_T62 l (j : Int)) (rd_T62 l (bestAt l : Int)) = false := by
  refine fst_max better ?_ ?_ ?_ l l.length 0 0 j (.inr ⟨Nat.zero_le _, by omega⟩)
  · intro x; simp [better]
  · intro x y h; simp [better] at h ⊢; omega
  · intro x y z h1 h2; simp [better] at h1 h2 ⊢; omega
theorem com_max (l : List S62) (j : Nat) (hj : j < l.length) : (rd_T62 l (j : Int)).f3 ≤ (rd_T62 l (comAt l : Int)).f3 := by
  have := fst_max moreC (fun x => by simp [moreC]) (fun x y h => by simp [moreC] at h ⊢; omega) (fun x y z h1 h2 => by simp [moreC] at h1 h2 ⊢; omega) l l.length 0 0 j (.inr ⟨Nat.zero_le _, by omega⟩)
  simpa [moreC, comAt] using this
theorem best_reaches (l : List S62) (j : Nat) (hj : j < l.length) : reachesB (rd_T62 l (bestAt l : Int)) (rd_T62 l (j : Int)).f1 (rd_T62 l (j : Int)).f2 = true := by
  have := best_max l j hj
  simp [better] at this
  simp [reachesB]
  omega
theorem reaches_trans (a b : S62) (n o : Int) (h1 : reachesB a b.f1 b.f2 = true) (h2 : reachesB b n o = true) : reachesB a n o = true := by
  simp [reachesB] at h1 h2 ⊢
  omega

theorem af_of (n : Int) : ∀ (l pre : List S62), (∀ x ∈ l, 0 ≤ x.f0 ∧ x.f0 < n) → ((pre ++ l).map (·.f0)).Nodup → allFresh n pre l = true
  | [], _, _, _ => rfl
  | x :: r, pre, h, hd => by
    rw [allFresh, Bool.and_eq_true]
    refine ⟨(fresh_iff n pre x).2 ⟨h x (by simp), fun y hy e => ?_⟩, af_of n r (pre ++ [x]) (fun z hz => h z (by simp [hz])) (by simpa using hd)⟩
    rw [List.map_append, List.nodup_append] at hd
    exact hd.2.2 y.f0 (List.mem_map.2 ⟨y, hy, rfl⟩) x.f0 (by simp) e

/-- the ballot of replica i in the law's list -/
def itemK (all : List S62) (i : Nat) : S62 := if i < all.length then { rd_T62 all (i : Int) with f0 := i } else ⟨i, 0, 0, 0⟩
def listK (all : List S62) (n : Nat) : List S62 := (List.range n).map (itemK all)
theorem itemK_f0 (all : List S62) (i : Nat) : (itemK all i).f0 = i := by unfold itemK; split <;> rfl
theorem listK_succ (all : List S62) (k : Nat) : listK all (k + 1) = listK all k ++ [itemK all k] := by simp [listK, List.range_succ]
theorem listK_length (all : List S62) (k : Nat) : (listK all k).length = k := by simp [listK]
theorem listK_nodup (all : List S62) (n : Nat) : ((listK all n).map (·.f0)).Nodup := by
  unfold listK
  rw [List.map_map]
  exact List.pairwise_map.2 (List.Pairwise.imp (fun h e => h (Int.ofNat.inj (by simpa [itemK_f0] using e))) (List.nodup_range (n := n)))
theorem told_fresh (all O R : List S62) (n : Nat) (hp : (O ++ R).Perm (listK all n)) : allFresh n [] O = true := by
  have hn : ((O ++ R).map (·.f0)).Nodup := (hp.map _).nodup_iff.2 (listK_nodup all n)
  refine af_of n O [] (fun x hx => ?_) ?_
  · have : x ∈ listK all n := hp.mem_iff.1 (by simp [hx])
    obtain ⟨i, hi, rfl⟩ := List.mem_map.1 this
    rw [itemK_f0]
    have := List.mem_range.1 hi
    omega
  · rw [List.map_append, List.nodup_append] at hn
    simpa using hn.1
theorem meet (all O R : List S62) (n f : Nat) (nm op : Int) (hp : (O ++ R).Perm (listK all n)) (hO : O.length = f + 1) (hn : n = 2 * f + 1) (hc : f + 1 ≤ (listK all n).countP (fun b => reachesB b nm op)) : reachesB (rd_T62 O (bestAt O : Int)) nm op = true := by
  have h1 := hp.countP_eq (fun b => reachesB b nm op)
  have h2 := hp.length_eq
  rw [listK_length, List.length_append] at h2
  rw [List.countP_append] at h1
  have h3 : R.countP (fun b => reachesB b nm op) ≤ R.length := List.countP_le_length
  have h4 : 0 < O.countP (fun b => reachesB b nm op) := by omega
  obtain ⟨x, hx, hr⟩ := List.countP_pos_iff.1 h4
  obtain ⟨j, hj, rfl⟩ := List.getElem_of_mem hx
  rw [← rd_at O j hj] at hr
  exact reaches_trans _ _ _ _ (best_reaches O j hj) hr
theorem best_told (all O R : List S62) (n f : Nat) (hp : (O ++ R).Perm (listK all n)) (hO : O.length = f + 1) (hn : n = 2 * f + 1) (hs : n = 3 ∨ n = 5 ∨ n = 7) : bestS n O = ((bestAt O : Int), (rd_T62 O (comAt O : Int)).f3, 0) := by
  refine best_ok n O ?_ (told_fresh all O R n hp)
  rw [hO, hn]
  simp [sized]
  omega
theorem reaches_f (b : S62) (n o : Int) : (if b.f1 > n then (some true) else (if b.f1 = n then (some (decide (b.f2 ≥ o))) else (some false))) = some (reachesB b n o) := by
  unfold reachesB
  by_cases h : b.f1 > n
  · rw [if_pos h]; simp; omega
  · rw [if_neg h]
    by_cases h2 : b.f1 = n
    · rw [if_pos h2]; simp [h2]
    · rw [if_neg h2]; simp [h2]; omega
end Go.Proofs.Ytobnehbcnlhchaa.Be
