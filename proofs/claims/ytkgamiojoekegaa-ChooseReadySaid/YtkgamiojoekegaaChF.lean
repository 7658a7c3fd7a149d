/- The document's Ready (the reference) answers as choose.Ready does: over plain lists. Conditions: none. -/
import Derived.Test.YtkgamiojoekegaaChP
import Derived.Test.YtkgamiojoekegaaPChooseReadyx2
namespace Go.Proofs.Ytkgamiojoekegaa.Ch
open Go.RowKit Go.Proofs.YtkgamiojoekegaaW.PrintWords Go.Proofs.Ytkgamiojoekegaa.PChooseReady
set_option linter.unusedVariables false
set_option linter.unusedSimpArgs false

/-- from some number of rounds on it answers r -/
def Fin {α : Type} (g : Nat → Option α) (r : α) : Prop := ∃ K, ∀ k, K ≤ k → g k = some r
theorem Fin.now {α : Type} {g : Nat → Option α} {r : α} (h : ∀ k, g (k + 1) = some r) : Fin g r := ⟨1, fun k hk => by obtain ⟨m, rfl⟩ : ∃ m, k = m + 1 := ⟨k - 1, by omega⟩; exact h m⟩
theorem Fin.step {α : Type} {g h : Nat → Option α} {r : α} (c : Nat) (e : ∀ k, g (k + c) = h k) (H : Fin h r) : Fin g r := by
  obtain ⟨K, hK⟩ := H
  exact ⟨K + c, fun k hk => by obtain ⟨m, rfl⟩ : ∃ m, k = m + c := ⟨k - c, by omega⟩; rw [e]; exact hK m (by omega)⟩

theorem w1 (i : Nat) (h : i ≤ 100) : wrap64 ((i : Int) + 1) = ((i + 1 : Nat) : Int) := by unfold wrap64; omega

/-- the inner loop: has one of these the number? -/
theorem ref_l1 (n me fl u : Int) (l : List S27) (i : Nat) (y : List S27) (hy : y.length ≤ 100) (hi : i ≤ 100) (a b : Int) (c : Bool) : ∀ (d q : Nat), y.length - q = d → q ≤ y.length → ∀ k,
    flotillaref12_Ready.l1 (k + (d + 1)) n me fl l u l (l.length : Int) (i : Int) y (y.length : Int) (q : Int) a b c =
      if (y.drop q).any (fun z => decide (z.f0 = a)) = true then some (0, false, 121) else (if b > u then flotillaref12_Ready.l0 k n me fl l b l (l.length : Int) ((i + 1 : Nat) : Int) else flotillaref12_Ready.l0 k n me fl l u l (l.length : Int) ((i + 1 : Nat) : Int))
  | 0, q, hd, hq, k => by
    have e : y.drop q = [] := List.drop_eq_nil_of_le (by omega)
    rw [e, flotillaref12_Ready.l1, if_neg (by omega), w1 i hi]
    simp
  | d + 1, q, hd, hq, k => by
    have hlt : q < y.length := by omega
    rw [show k + (d + 1 + 1) = (k + (d + 1)) + 1 by omega, flotillaref12_Ready.l1, if_pos (by omega), if_pos (by omega), if_pos (by omega)]
    rw [drop_at y q hlt, List.any_cons]
    by_cases h : (rd_T27 y (q : Int)).f0 = a
    · rw [if_pos h, if_pos (by simp [h])]
    · rw [if_neg h, w1 q (by omega), ref_l1 n me fl u l i y hy hi a b c d (q + 1) (by omega) (by omega) k]
      simp [h]

theorem ref_l2 (n u : Int) (l : List S27) (hl : l.length ≤ 100) (hn : n ≠ 0) (hu : 0 ≤ u) : ∀ (d i : Nat), l.length - i = d → i ≤ l.length → Fin (fun k => flotillaref12_Ready.l2 k n u l (l.length : Int) (i : Int)) (findP n u i (l.drop i))
  | 0, i, hd, hi => Fin.now fun k => by
    have e : l.drop i = [] := List.drop_eq_nil_of_le (by omega)
    simp only [flotillaref12_Ready.l2]
    rw [e, if_neg (by omega), findP]
  | d + 1, i, hd, hi => by
    have hlt : i < l.length := by omega
    rw [drop_at l i hlt, findP]
    have ht : Int.tmod u n = u % n := Int.tmod_eq_emod_of_nonneg hu
    by_cases hp : prim n u (rd_T27 l (i : Int)) = true
    · rw [if_pos hp]
      simp only [prim, Bool.and_eq_true, beq_iff_eq] at hp
      refine Fin.now fun k => ?_
      simp only [flotillaref12_Ready.l2]
      rw [if_pos (by omega), if_pos (by omega), if_pos (by omega), if_neg hn, if_pos (by rw [ht]; exact hp.1), if_pos hp.2.1, if_pos hp.2.2]
    · rw [if_neg hp]
      refine Fin.step 1 (fun k => ?_) (ref_l2 n u l hl hn hu d (i + 1) (by omega) (by omega))
      simp only [flotillaref12_Ready.l2]
      rw [if_pos (by omega), if_pos (by omega), if_pos (by omega), if_neg hn, w1 i (by omega), ht]
      by_cases h1 : (rd_T27 l (i : Int)).f0 = u % n
      · rw [if_pos h1]
        by_cases h2 : (rd_T27 l (i : Int)).f1 = u
        · rw [if_pos h2, if_neg (fun h3 => hp (by simp [prim, h1, h2, h3]))]
        · rw [if_neg h2]
      · rw [if_neg h1]

/-- behind the first loop -/
theorem ref_tail (n me fl : Int) (l : List S27) (hl : l.length ≤ 100) (hn : n = 3 ∨ n = 5 ∨ n = 7) : ∃ u0, u0 = latest l ∧
    Fin (fun k => if (l.length : Int) < (wrap64 ((wrap64 (Int.tdiv (wrap64 (n - 1)) 2)) + 1)) then (flotillaref12_Ready.j4 k n l u0 true) else (if u0 < 0 then (flotillaref12_Ready.j4 k n l u0 true) else (flotillaref12_Ready.j4 k n l u0 (decide (u0 < fl)))))
      (if (l.length : Int) < (n - 1) / 2 + 1 ∨ latest l < 0 ∨ latest l < fl then (0, false, 0) else findP n (latest l) 0 l) := by
  refine ⟨latest l, rfl, ?_⟩
  have hq : wrap64 ((wrap64 (Int.tdiv (wrap64 (n - 1)) 2)) + 1) = (n - 1) / 2 + 1 := by rcases hn with rfl | rfl | rfl <;> (unfold wrap64; decide)
  rw [hq]
  by_cases h1 : (l.length : Int) < (n - 1) / 2 + 1
  · rw [if_pos (.inl h1)]
    refine Fin.now fun k => ?_
    rw [if_pos h1, flotillaref12_Ready.j4, if_pos rfl]
  by_cases h2 : latest l < 0
  · rw [if_pos (.inr (.inl h2))]
    refine Fin.now fun k => ?_
    rw [if_neg h1, if_pos h2, flotillaref12_Ready.j4, if_pos rfl]
  by_cases h3 : latest l < fl
  · rw [if_pos (.inr (.inr h3))]
    refine Fin.now fun k => ?_
    rw [if_neg h1, if_neg h2, flotillaref12_Ready.j4, if_pos (by simpa using h3)]
  rw [if_neg (by omega)]
  refine Fin.step 1 (fun k => ?_) (ref_l2 n (latest l) l hl (by omega) (by omega) l.length 0 (by omega) (by omega))
  rw [if_neg h1, if_neg h2, flotillaref12_Ready.j4, if_neg (by simpa using h3)]
  rfl

theorem ref_l0 (n me fl : Int) (l : List S27) (hl : l.length ≤ 100) (hl1 : 0 < l.length) (hn : n = 3 ∨ n = 5 ∨ n = 7) (hm : 0 ≤ me) : ∀ (d i : Nat) (u : Int), l.length - i = d → i ≤ l.length →
    (∀ x ∈ l.take i, x.f1 ≤ u) → (∃ x ∈ l, x.f1 = u) → Fin (fun k => flotillaref12_Ready.l0 k n me fl l u l (l.length : Int) (i : Int))
      (if !allFresh n me (l.take i) (l.drop i) then (0, false, 121) else if (l.length : Int) < (n - 1) / 2 + 1 ∨ latest l < 0 ∨ latest l < fl then (0, false, 0) else findP n (latest l) 0 l)
  | 0, i, u, hd, hi, h1, h2 => by
    obtain rfl : i = l.length := by omega
    rw [List.take_length] at h1
    have hu : latest l = u := latest_of l hl1 u h1 h2
    rw [List.drop_length, allFresh, if_neg (by simp)]
    obtain ⟨u0, hu0, hF⟩ := ref_tail n me fl l hl hn
    refine Fin.step 1 (fun k => ?_) hF
    simp only [flotillaref12_Ready.l0]
    rw [if_neg (by omega), hu0, hu]
  | d + 1, i, u, hd, hi, h1, h2 => by
    have hlt : i < l.length := by omega
    have hx : rd_T27 l (i : Int) ∈ l := by rw [rd_at l i hlt]; exact List.getElem_mem hlt
    rw [drop_at l i hlt, allFresh]
    by_cases hf : fresh n me (l.take i) (rd_T27 l (i : Int)) = true
    · rw [hf, Bool.true_and]
      have hff := (fresh_iff n me _ _ hm).1 hf
      have e : l.take i ++ [rd_T27 l (i : Int)] = l.take (i + 1) := (take_at l i hlt).symm
      rw [e]
      have hany : ((l.take i).drop 0).any (fun z => decide (z.f0 = (rd_T27 l (i : Int)).f0)) = false := by
        rw [List.drop_zero, List.any_eq_false]
        intro z hz
        simpa using hff.2 z hz
      have hti : (l.take i).length = i := by simp; omega
      by_cases hv : (rd_T27 l (i : Int)).f1 > u
      · refine Fin.step (i + 3) (fun k => ?_) (ref_l0 n me fl l hl hl1 hn hm d (i + 1) (rd_T27 l (i : Int)).f1 (by omega) (by omega) (fun x hx' => ?_) ⟨_, hx, rfl⟩)
        · rw [show k + (i + 3) = (k + (i + 1) + 1) + 1 by omega]
          simp only [flotillaref12_Ready.l0]
          rw [if_pos (by omega), if_pos (by omega), if_pos (by omega), if_neg (by omega), if_neg (by omega), flotillaref12_Ready.j2, if_neg (by simpa using hff.1.2.2), if_pos (by omega), if_pos (by omega)]
          simp only [Option.bind_some, Int.toNat_natCast]
          have h := ref_l1 n me fl u l i (l.take i) (by omega) (by omega) (rd_T27 l (i : Int)).f0 (rd_T27 l (i : Int)).f1 (rd_T27 l (i : Int)).f2 i 0 (by omega) (by omega) k
          rw [show ((0 : Nat) : Int) = 0 from rfl] at h
          rw [h, hany, if_neg (by decide), if_pos hv]
        · rw [take_at l i hlt, List.mem_append, List.mem_singleton] at hx'
          rcases hx' with hx' | rfl
          · have := h1 x hx'; omega
          · exact Int.le_refl _
      · refine Fin.step (i + 3) (fun k => ?_) (ref_l0 n me fl l hl hl1 hn hm d (i + 1) u (by omega) (by omega) (fun x hx' => ?_) h2)
        · rw [show k + (i + 3) = (k + (i + 1) + 1) + 1 by omega]
          simp only [flotillaref12_Ready.l0]
          rw [if_pos (by omega), if_pos (by omega), if_pos (by omega), if_neg (by omega), if_neg (by omega), flotillaref12_Ready.j2, if_neg (by simpa using hff.1.2.2), if_pos (by omega), if_pos (by omega)]
          simp only [Option.bind_some, Int.toNat_natCast]
          have h := ref_l1 n me fl u l i (l.take i) (by omega) (by omega) (rd_T27 l (i : Int)).f0 (rd_T27 l (i : Int)).f1 (rd_T27 l (i : Int)).f2 i 0 (by omega) (by omega) k
          rw [show ((0 : Nat) : Int) = 0 from rfl] at h
          rw [h, hany, if_neg (by decide), if_neg hv]
        · rw [take_at l i hlt, List.mem_append, List.mem_singleton] at hx'
          rcases hx' with hx' | rfl
          · exact h1 x hx'
          · omega
    · rw [Bool.not_eq_true] at hf
      rw [hf, Bool.false_and, if_pos (by rfl)]
      have hti : (l.take i).length = i := by simp; omega
      have hj2 : ∀ k, flotillaref12_Ready.j2 (k + 1) n me fl l u (i : Int) l (l.length : Int) (i : Int) true (rd_T27 l (i : Int)).f0 (rd_T27 l (i : Int)).f1 (rd_T27 l (i : Int)).f2 = some (0, false, 121) := fun k => by
        rw [flotillaref12_Ready.j2, if_pos rfl]
      by_cases c1 : (rd_T27 l (i : Int)).f0 < 0
      · refine ⟨2, fun k hk => ?_⟩
        obtain ⟨m, rfl⟩ : ∃ m, k = m + 1 + 1 := ⟨k - 2, by omega⟩
        simp only [flotillaref12_Ready.l0]
        rw [if_pos (by omega), if_pos (by omega), if_pos (by omega), if_pos c1, hj2]
      by_cases c2 : (rd_T27 l (i : Int)).f0 ≥ n
      · refine ⟨2, fun k hk => ?_⟩
        obtain ⟨m, rfl⟩ : ∃ m, k = m + 1 + 1 := ⟨k - 2, by omega⟩
        simp only [flotillaref12_Ready.l0]
        rw [if_pos (by omega), if_pos (by omega), if_pos (by omega), if_neg c1, if_pos c2, hj2]
      by_cases c3 : (rd_T27 l (i : Int)).f0 = me
      · refine ⟨2, fun k hk => ?_⟩
        obtain ⟨m, rfl⟩ : ∃ m, k = m + 1 + 1 := ⟨k - 2, by omega⟩
        simp only [flotillaref12_Ready.l0]
        rw [if_pos (by omega), if_pos (by omega), if_pos (by omega), if_neg c1, if_neg c2, show ((rd_T27 l (i : Int)).f0 == me) = true from beq_iff_eq.mpr c3, hj2]
      have hany : ((l.take i).drop 0).any (fun z => decide (z.f0 = (rd_T27 l (i : Int)).f0)) = true := by
        rw [List.drop_zero]
        have : ¬ (fresh n me (l.take i) (rd_T27 l (i : Int)) = true) := by rw [hf]; decide
        rw [fresh_iff n me _ _ hm] at this
        by_cases hc : (l.take i).any (fun z => decide (z.f0 = (rd_T27 l (i : Int)).f0)) = true
        · exact hc
        · exfalso
          apply this
          refine ⟨⟨by omega, by omega, c3⟩, fun y hy => ?_⟩
          rw [Bool.not_eq_true, List.any_eq_false] at hc
          simpa using hc y hy
      refine ⟨i + 4, fun k hk => ?_⟩
      obtain ⟨m, rfl⟩ : ∃ m, k = (m + (i + 1) + 1) + 1 := ⟨k - (i + 3), by omega⟩
      simp only [flotillaref12_Ready.l0]
      rw [if_pos (by omega), if_pos (by omega), if_pos (by omega), if_neg c1, if_neg c2, show ((rd_T27 l (i : Int)).f0 == me) = false from beq_eq_false_iff_ne.mpr c3, flotillaref12_Ready.j2, if_neg (by decide), if_pos (by omega), if_pos (by omega)]
      simp only [Option.bind_some, Int.toNat_natCast]
      have h := ref_l1 n me fl u l i (l.take i) (by omega) (by omega) (rd_T27 l (i : Int)).f0 (rd_T27 l (i : Int)).f1 (rd_T27 l (i : Int)).f2 i 0 (by omega) (by omega) m
      rw [show ((0 : Nat) : Int) = 0 from rfl] at h
      rw [h, hany, if_pos rfl]

theorem ref_ready (n me fl : Int) (l : List S27) : ∃ k, flotillaref12_Ready.f k n me fl l = some (readyS n me fl l) := by
  unfold flotillaref12_Ready.f readyS
  have hsz : flotillaref12_sized.f n (l.length : Int) = some (sized n l.length) := by
    unfold flotillaref12_sized.f sized
    by_cases h3 : n = 3
    · rw [if_pos h3]; subst h3
      by_cases h1 : (l.length : Int) ≥ 1
      · rw [if_pos h1, decide_eq_true (show 1 ≤ (l.length : Int) from h1)]; simp
      · rw [if_neg h1, decide_eq_false (show ¬ 1 ≤ (l.length : Int) from h1)]; simp
    rw [if_neg h3]
    by_cases h5 : n = 5
    · rw [if_pos h5]; subst h5
      by_cases h1 : (l.length : Int) ≥ 1
      · rw [if_pos h1, decide_eq_true (show 1 ≤ (l.length : Int) from h1)]; simp
      · rw [if_neg h1, decide_eq_false (show ¬ 1 ≤ (l.length : Int) from h1)]; simp
    rw [if_neg h5]
    by_cases h7 : n = 7
    · rw [if_pos h7]; subst h7
      by_cases h1 : (l.length : Int) ≥ 1
      · rw [if_pos h1, decide_eq_true (show 1 ≤ (l.length : Int) from h1)]; simp
      · rw [if_neg h1, decide_eq_false (show ¬ 1 ≤ (l.length : Int) from h1)]; simp
    rw [if_neg h7, beq_eq_false_iff_ne.mpr h3, beq_eq_false_iff_ne.mpr h5, beq_eq_false_iff_ne.mpr h7]
    rfl
  rw [hsz]
  simp only [Option.bind_some]
  cases hs : sized n l.length with
  | false => exact ⟨0, by simp⟩
  | true =>
    have hn : n = 3 ∨ n = 5 ∨ n = 7 := by simp [sized] at hs; omega
    have hl : 1 ≤ l.length ∧ l.length ≤ 7 := by simp [sized] at hs; omega
    by_cases hm : 0 ≤ me ∧ me < n
    · obtain ⟨K, hK⟩ := ref_l0 n me fl l (by omega) (by omega) hn hm.1 l.length 0 (rd_T27 l ((0 : Nat) : Int)).f1 (by omega) (by omega) (by simp) ⟨_, by rw [rd_at l 0 (by omega)]; exact List.getElem_mem _, rfl⟩
      refine ⟨K + 1, ?_⟩
      have h := hK K (Nat.le_refl _)
      simp only [List.take_zero, List.drop_zero] at h
      rw [if_pos rfl, if_neg (by omega), flotillaref12_Ready.j0, if_neg (by simp; omega), if_pos (by omega)]
      rw [show ((0 : Nat) : Int) = 0 from rfl] at h
      rw [h]
      simp [hm.1, hm.2]
    · refine ⟨1, ?_⟩
      have e : (!(decide (0 ≤ me) && decide (me < n)) || !allFresh n me [] l) = true := by simp; omega
      rw [if_pos rfl, e, if_pos rfl, show (!true) = false from rfl, if_neg Bool.false_ne_true]
      by_cases h0 : me < 0
      · rw [if_pos h0, flotillaref12_Ready.j0, if_pos rfl]
      · rw [if_neg h0, flotillaref12_Ready.j0, if_pos (by simp; omega)]

theorem refready_any (n me floor : Int) (A : Option Addr) (c : Nat) (l : List S27) (w : World) (hA : Kd.C k27 w A l.length l) (hc : l.length ≤ c) :
    Calls Try.prog 13 #[.int .i64 n, .int .i64 me, .int .i64 floor, .slice A l.length c] w fun e w' => e = tup (readyS n me floor l) ∧ Below w.heap.size w w' := by
  obtain ⟨k, hk⟩ := ref_ready n me floor l
  exact flotillaref12_Ready.calls k n me floor A c l _ _ _ w hA hc hk
end Go.Proofs.Ytkgamiojoekegaa.Ch
