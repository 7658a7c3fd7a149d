/- The document's Best (the reference) answers as choose.Best does: over plain lists. Conditions: none. -/
import Derived.Test.YtkgamiojoekegabBeX
import Derived.Test.YtkgamiojoekegabPChooseBestx2
namespace Go.Proofs.Ytkgamiojoekegab.Be
open Go.RowKit Go.Proofs.YtkgamiojoekegabW.PrintWords Go.Proofs.Ytkgamiojoekegab.PChooseBest
set_option linter.unusedVariables false
set_option linter.unusedSimpArgs false

theorem fresh_iff (n : Int) (pre : List S26) (x : S26) : fresh n pre x = true ↔ (0 ≤ x.f0 ∧ x.f0 < n) ∧ ∀ y ∈ pre, y.f0 ≠ x.f0 := by
  simp only [fresh, hd, Bool.and_eq_true, decide_eq_true_eq, Bool.not_eq_true', List.any_eq_false]
  constructor
  · rintro ⟨⟨h0, h1⟩, h3⟩
    have e : (x.f0.toNat : Int) = x.f0 := Int.toNat_of_nonneg h0
    refine ⟨⟨h0, h1⟩, fun y hy => ?_⟩
    have := h3 y hy
    rw [e] at this
    exact this
  · rintro ⟨⟨h0, h1⟩, h3⟩
    have e : (x.f0.toNat : Int) = x.f0 := Int.toNat_of_nonneg h0
    rw [e]
    exact ⟨⟨h0, h1⟩, h3⟩

/-- from some number of rounds on it answers r -/
def Fin {α : Type} (g : Nat → Option α) (r : α) : Prop := ∃ K, ∀ k, K ≤ k → g k = some r
theorem Fin.now {α : Type} {g : Nat → Option α} {r : α} (h : ∀ k, g (k + 1) = some r) : Fin g r := ⟨1, fun k hk => by obtain ⟨m, rfl⟩ : ∃ m, k = m + 1 := ⟨k - 1, by omega⟩; exact h m⟩
theorem Fin.step {α : Type} {g h : Nat → Option α} {r : α} (c : Nat) (e : ∀ k, g (k + c) = h k) (H : Fin h r) : Fin g r := by
  obtain ⟨K, hK⟩ := H
  exact ⟨K + c, fun k hk => by obtain ⟨m, rfl⟩ : ∃ m, k = m + c := ⟨k - c, by omega⟩; rw [e]; exact hK m (by omega)⟩
theorem w1 (i : Nat) (h : i ≤ 100) : wrap64 ((i : Int) + 1) = ((i + 1 : Nat) : Int) := by unfold wrap64; omega

theorem ahead_f (x a : S26) : flotillaref12_ahead.f x.f0 x.f1 x.f2 x.f3 a.f0 a.f1 a.f2 a.f3 = some (better x a) := by
  unfold flotillaref12_ahead.f better
  by_cases h1 : x.f1 > a.f1
  · rw [if_pos h1, decide_eq_true (show a.f1 < x.f1 from h1)]; rfl
  · rw [if_neg h1, decide_eq_false (show ¬ a.f1 < x.f1 from h1), Bool.false_or]
    by_cases h2 : x.f1 = a.f1
    · rw [if_pos h2, beq_iff_eq.mpr h2, Bool.true_and]
    · rw [if_neg h2, beq_eq_false_iff_ne.mpr h2, Bool.false_and]

theorem ref_l1 (n : Int) (l : List S26) (i : Nat) (y : List S26) (hy : y.length ≤ 100) (hi : i ≤ 100) (a b c d' : Int) : ∀ (d q : Nat), y.length - q = d → q ≤ y.length → ∀ k,
    flotillaref12_Best.l1 (k + (d + 1)) n l l (l.length : Int) (i : Int) y (y.length : Int) (q : Int) a b c d' =
      if (y.drop q).any (fun z => decide (z.f0 = a)) = true then some (0, 0, 121) else flotillaref12_Best.l0 k n l l (l.length : Int) ((i + 1 : Nat) : Int)
  | 0, q, hd, hq, k => by
    have e : y.drop q = [] := List.drop_eq_nil_of_le (by omega)
    rw [e, flotillaref12_Best.l1, if_neg (by omega), w1 i hi]
    simp
  | d + 1, q, hd, hq, k => by
    have hlt : q < y.length := by omega
    rw [show k + (d + 1 + 1) = (k + (d + 1)) + 1 by omega, flotillaref12_Best.l1, if_pos (by omega), if_pos (by omega), if_pos (by omega)]
    rw [drop_at y q hlt, List.any_cons]
    by_cases h : (rd_T26 y (q : Int)).f0 = a
    · rw [if_pos h, if_pos (by simp [h])]
    · rw [if_neg h, w1 q (by omega), ref_l1 n l i y hy hi a b c d' d (q + 1) (by omega) (by omega) k]
      simp [h]

theorem ref_l2 (l : List S26) (hl : l.length ≤ 100) : ∀ (d i b1 b2 : Nat), l.length - i = d → i ≤ l.length → b1 < l.length → b2 < l.length →
    Fin (fun k => flotillaref12_Best.l2 k l (b1 : Int) (rd_T26 l (b2 : Int)).f3 l (l.length : Int) (i : Int)) ((fst better l i b1 d : Int), (rd_T26 l (fst moreC l i b2 d : Int)).f3, 0)
  | 0, i, b1, b2, hd, hi, h1, h2 => Fin.now fun k => by
    simp only [flotillaref12_Best.l2]
    rw [if_neg (by omega), fst, fst]
  | d + 1, i, b1, b2, hd, hi, h1, h2 => by
    have hlt : i < l.length := by omega
    rw [fst, fst]
    refine Fin.step 1 (fun k => ?_) (ref_l2 l hl d (i + 1) (if better (rd_T26 l (i : Int)) (rd_T26 l (b1 : Int)) = true then i else b1) (if moreC (rd_T26 l (i : Int)) (rd_T26 l (b2 : Int)) = true then i else b2) (by omega) (by omega) (by split <;> omega) (by split <;> omega))
    simp only [flotillaref12_Best.l2]
    rw [if_pos (by omega), if_pos (by omega), if_pos (by omega), if_pos (by omega), if_pos (by omega), ahead_f]
    simp only [Option.bind_some, w1 i (by omega)]
    have hm : moreC (rd_T26 l (i : Int)) (rd_T26 l (b2 : Int)) = decide ((rd_T26 l (i : Int)).f3 > (rd_T26 l (b2 : Int)).f3) := rfl
    rw [hm]
    cases hb : better (rd_T26 l (i : Int)) (rd_T26 l (b1 : Int)) with
    | true =>
      rw [if_pos rfl, if_pos rfl]
      by_cases hc : (rd_T26 l (i : Int)).f3 > (rd_T26 l (b2 : Int)).f3
      · rw [if_pos hc, if_pos (by simpa using hc)]
      · rw [if_neg hc, if_neg (by simpa using hc)]
    | false =>
      simp only [Bool.false_eq_true, if_false]
      by_cases hc : (rd_T26 l (i : Int)).f3 > (rd_T26 l (b2 : Int)).f3
      · rw [if_pos hc, if_pos (by simpa using hc)]
      · rw [if_neg hc, if_neg (by simpa using hc)]

theorem ref_l0 (n : Int) (l : List S26) (hl : l.length ≤ 100) (hl1 : 0 < l.length) : ∀ (d i : Nat), l.length - i = d → i ≤ l.length →
    Fin (fun k => flotillaref12_Best.l0 k n l l (l.length : Int) (i : Int))
      (if !allFresh n (l.take i) (l.drop i) then (0, 0, 121) else ((bestAt l : Int), (rd_T26 l (comAt l : Int)).f3, 0))
  | 0, i, hd, hi => by
    obtain rfl : i = l.length := by omega
    rw [List.drop_length, allFresh, if_neg (by simp)]
    refine Fin.step 1 (fun k => ?_) (ref_l2 l hl l.length 0 0 0 (by omega) (by omega) hl1 hl1)
    simp only [flotillaref12_Best.l0]
    rw [if_neg (by omega), if_pos (by omega)]
    rfl
  | d + 1, i, hd, hi => by
    have hlt : i < l.length := by omega
    have hx : rd_T26 l (i : Int) ∈ l := by rw [rd_at l i hlt]; exact List.getElem_mem hlt
    have hti : (l.take i).length = i := by simp; omega
    rw [drop_at l i hlt, allFresh]
    by_cases hf : fresh n (l.take i) (rd_T26 l (i : Int)) = true
    · rw [hf, Bool.true_and]
      have hff := (fresh_iff n _ _).1 hf
      have e : l.take i ++ [rd_T26 l (i : Int)] = l.take (i + 1) := (take_at l i hlt).symm
      rw [e]
      have hany : ((l.take i).drop 0).any (fun z => decide (z.f0 = (rd_T26 l (i : Int)).f0)) = false := by
        rw [List.drop_zero, List.any_eq_false]
        intro z hz
        simpa using hff.2 z hz
      refine Fin.step (i + 3) (fun k => ?_) (ref_l0 n l hl hl1 d (i + 1) (by omega) (by omega))
      rw [show k + (i + 3) = (k + (i + 1) + 1) + 1 by omega]
      simp only [flotillaref12_Best.l0]
      rw [if_pos (by omega), if_pos (by omega), if_pos (by omega), if_neg (by omega), flotillaref12_Best.j1, if_neg (by simp; omega), if_pos (by omega), if_pos (by omega)]
      simp only [Option.bind_some, Int.toNat_natCast]
      have h := ref_l1 n l i (l.take i) (by omega) (by omega) (rd_T26 l (i : Int)).f0 (rd_T26 l (i : Int)).f1 (rd_T26 l (i : Int)).f2 (rd_T26 l (i : Int)).f3 i 0 (by omega) (by omega) k
      rw [show ((0 : Nat) : Int) = 0 from rfl] at h
      rw [h, hany, if_neg (by decide)]
    · rw [Bool.not_eq_true] at hf
      rw [hf, Bool.false_and, if_pos (by rfl)]
      by_cases c1 : (rd_T26 l (i : Int)).f0 < 0
      · refine ⟨2, fun k hk => ?_⟩
        obtain ⟨m, rfl⟩ : ∃ m, k = m + 1 + 1 := ⟨k - 2, by omega⟩
        simp only [flotillaref12_Best.l0]
        rw [if_pos (by omega), if_pos (by omega), if_pos (by omega), if_pos c1, flotillaref12_Best.j1, if_pos rfl]
      by_cases c2 : (rd_T26 l (i : Int)).f0 ≥ n
      · refine ⟨2, fun k hk => ?_⟩
        obtain ⟨m, rfl⟩ : ∃ m, k = m + 1 + 1 := ⟨k - 2, by omega⟩
        simp only [flotillaref12_Best.l0]
        rw [if_pos (by omega), if_pos (by omega), if_pos (by omega), if_neg c1, flotillaref12_Best.j1, if_pos (by simpa using c2)]
      have hany : ((l.take i).drop 0).any (fun z => decide (z.f0 = (rd_T26 l (i : Int)).f0)) = true := by
        rw [List.drop_zero]
        have : ¬ (fresh n (l.take i) (rd_T26 l (i : Int)) = true) := by rw [hf]; decide
        rw [fresh_iff n _ _] at this
        by_cases hc : (l.take i).any (fun z => decide (z.f0 = (rd_T26 l (i : Int)).f0)) = true
        · exact hc
        · exfalso
          apply this
          refine ⟨⟨by omega, by omega⟩, fun y hy => ?_⟩
          rw [Bool.not_eq_true, List.any_eq_false] at hc
          simpa using hc y hy
      refine ⟨i + 4, fun k hk => ?_⟩
      obtain ⟨m, rfl⟩ : ∃ m, k = (m + (i + 1) + 1) + 1 := ⟨k - (i + 3), by omega⟩
      simp only [flotillaref12_Best.l0]
      rw [if_pos (by omega), if_pos (by omega), if_pos (by omega), if_neg c1, flotillaref12_Best.j1, if_neg (by simpa using c2), if_pos (by omega), if_pos (by omega)]
      simp only [Option.bind_some, Int.toNat_natCast]
      have h := ref_l1 n l i (l.take i) (by omega) (by omega) (rd_T26 l (i : Int)).f0 (rd_T26 l (i : Int)).f1 (rd_T26 l (i : Int)).f2 (rd_T26 l (i : Int)).f3 i 0 (by omega) (by omega) m
      rw [show ((0 : Nat) : Int) = 0 from rfl] at h
      rw [h, hany, if_pos rfl]

theorem ref_best (n : Int) (l : List S26) : ∃ k, flotillaref12_Best.f k n l = some (bestS n l) := by
  unfold flotillaref12_Best.f bestS
  have hsz : flotillaref12_sized.f n (l.length : Int) = some (sized n l.length) := by
    unfold flotillaref12_sized.f sized
    by_cases h3 : n = 3
    · rw [if_pos h3]; subst h3
      by_cases h1 : (l.length : Int) ≥ 1
      · rw [if_pos h1, decide_eq_true (show 1 ≤ (l.length : Int) from h1)]; simp
      · rw [if_neg h1, decide_eq_false (show ¬ 1 ≤ (l.length : Int) from h1)]; simp
    rw [if_neg h3]
    by_cases h5 : n = 5
    · rw [if_pos h5]; subst h5
      by_cases h1 : (l.length : Int) ≥ 1
      · rw [if_pos h1, decide_eq_true (show 1 ≤ (l.length : Int) from h1)]; simp
      · rw [if_neg h1, decide_eq_false (show ¬ 1 ≤ (l.length : Int) from h1)]; simp
    rw [if_neg h5]
    by_cases h7 : n = 7
    · rw [if_pos h7]; subst h7
      by_cases h1 : (l.length : Int) ≥ 1
      · rw [if_pos h1, decide_eq_true (show 1 ≤ (l.length : Int) from h1)]; simp
      · rw [if_neg h1, decide_eq_false (show ¬ 1 ≤ (l.length : Int) from h1)]; simp
    rw [if_neg h7, beq_eq_false_iff_ne.mpr h3, beq_eq_false_iff_ne.mpr h5, beq_eq_false_iff_ne.mpr h7]
    rfl
  rw [hsz]
  simp only [Option.bind_some]
  cases hs : sized n l.length with
  | false => exact ⟨0, by simp⟩
  | true =>
    have hl : 1 ≤ l.length ∧ l.length ≤ 7 := by simp [sized] at hs; omega
    obtain ⟨K, hK⟩ := ref_l0 n l (by omega) (by omega) l.length 0 (by omega) (by omega)
    refine ⟨K, ?_⟩
    have h := hK K (Nat.le_refl _)
    simp only [List.take_zero, List.drop_zero] at h
    rw [show ((0 : Nat) : Int) = 0 from rfl] at h
    rw [if_pos rfl, h]
    simp

theorem refbest_any (n : Int) (A : Option Addr) (c : Nat) (l : List S26) (w : World) (hA : Kd.C k26 w A l.length l) (hc : l.length ≤ c) :
    Calls Try.prog 45 #[.int .i64 n, .slice A l.length c] w fun e w' => e = tup (bestS n l) ∧ Below w.heap.size w w' := by
  obtain ⟨k, hk⟩ := ref_best n l
  exact flotillaref12_Best.calls k n A c l _ _ _ w hA hc hk
end Go.Proofs.Ytkgamiojoekegab.Be
