/- The law ChooseBelieves: its walk. Conditions: none. -/
import Derived.Test.YtobnehbcnlhchaaTrCX
namespace Go.Proofs.Ytobnehbcnlhchaa.Ch
open Go.RowKit Go.Proofs.YtobnehbcnlhchaaW.PrintWords Go.Proofs.Ytobnehbcnlhchaa.PChooseTurned
set_option linter.unusedVariables false

/-! ### what Ready's answer says -/
theorem maxW_max (l : List S66) : ∀ k i b, i + k ≤ l.length → b < l.length → (∀ j, j < i → (rd_T66 l (j : Int)).f1 ≤ (rd_T66 l (b : Int)).f1) → ∀ j : Nat, j < i + k → (rd_T66 l (j : Int)).f1 ≤ (rd_T66 l (maxW l i b k : Int)).f1
  | 0, i, b, _, _, h => fun j hj => h j (by omega)
  | k + 1, i, b, hi, hb, h => fun j hj => by
    rw [maxW]
    by_cases hc : (rd_T66 l (b : Int)).f1 < (rd_T66 l (i : Int)).f1
    · rw [if_pos hc]
      refine maxW_max l k (i + 1) i (by omega) (by omega) (fun j' hj' => ?_) j (by omega)
      by_cases e : j' = i
      · subst e; exact Int.le_refl _
      · have := h j' (by omega); omega
    · rw [if_neg hc]
      refine maxW_max l k (i + 1) b (by omega) hb (fun j' hj' => ?_) j (by omega)
      by_cases e : j' = i
      · subst e; omega
      · exact h j' (by omega)
theorem latest_max (l : List S66) (j : Nat) (hj : j < l.length) : (rd_T66 l (j : Int)).f1 ≤ latest l :=
  maxW_max l l.length 0 0 (by omega) (by omega) (fun j hj => by omega) j (by omega)
theorem allFresh_me (n me : Int) : ∀ (l pre : List S66), allFresh n me pre l = true → ∀ j : Nat, j < l.length → (rd_T66 l (j : Int)).f0 ≠ me
  | [], _, _, j, hj => absurd hj (by simp)
  | x :: r, pre, h, 0, _ => by
    rw [allFresh, Bool.and_eq_true] at h
    have hf := h.1
    simp only [fresh, hd, Bool.and_eq_true, decide_eq_true_eq, Bool.not_eq_true', Bool.or_eq_false_iff, decide_eq_false_iff_not] at hf
    intro e
    have e' : x.f0 = me := by simpa [rd_T66] using e
    omega
  | x :: r, pre, h, j + 1, hj => by
    rw [allFresh, Bool.and_eq_true] at h
    have := allFresh_me n me r _ h.2 j (by simpa using hj)
    intro e
    apply this
    rw [← e]
    simp [rd_T66]
theorem findP_true (n u : Int) : ∀ (l : List S66) (i : Nat) (p : Int × Bool × Int), findP n u i l = p → (p.2.1 = false ∧ p.1 = 0 ∧ p.2.2 = 0) ∨ (p.2.1 = true ∧ p.2.2 = 0 ∧ ∃ k : Nat, k < l.length ∧ p.1 = ((i + k : Nat) : Int) ∧ prim n u (rd_T66 l (k : Int)) = true)
  | [], i, p, h => by subst h; exact .inl ⟨rfl, rfl, rfl⟩
  | x :: r, i, p, h => by
    rw [findP] at h
    by_cases hp : prim n u x = true
    · rw [if_pos hp] at h
      subst h
      exact .inr ⟨rfl, rfl, 0, by simp, rfl, by simpa [rd_T66] using hp⟩
    · rw [if_neg hp] at h
      rcases findP_true n u r (i + 1) p h with h' | ⟨h1, h2, k, h3, h4, h5⟩
      · exact .inl h'
      · exact .inr ⟨h1, h2, k + 1, by simpa using h3, by rw [h4]; congr 1; omega, by simpa [rd_T66] using h5⟩
/-- whoever is believed -/
theorem ready_true (n me floor : Int) (l : List S66) (h : (readyS n me floor l).2.1 = true) :
    (readyS n me floor l).2.2 = 0 ∧ sized n l.length = true ∧ (n - 1) / 2 + 1 ≤ (l.length : Int) ∧ 0 ≤ latest l ∧ floor ≤ latest l ∧ 0 ≤ me ∧ me < n ∧ allFresh n me [] l = true ∧ ∃ k : Nat, k < l.length ∧ (readyS n me floor l).1 = (k : Int) ∧ prim n (latest l) (rd_T66 l (k : Int)) = true := by
  unfold readyS at h ⊢
  by_cases h1 : (!sized n l.length) = true
  · rw [if_pos h1] at h; simp at h
  rw [if_neg h1] at h ⊢
  by_cases h2 : (!(decide (0 ≤ me) && decide (me < n)) || !allFresh n me [] l) = true
  · rw [if_pos h2] at h; simp at h
  rw [if_neg h2] at h ⊢
  by_cases h3 : (l.length : Int) < (n - 1) / 2 + 1 ∨ latest l < 0 ∨ latest l < floor
  · rw [if_pos h3] at h; simp at h
  rw [if_neg h3] at h ⊢
  simp at h1 h2
  rcases findP_true n (latest l) l 0 _ rfl with ⟨h', _⟩ | ⟨_, h5, k, h6, h7, h8⟩
  · rw [h'] at h; simp at h
  · exact ⟨h5, h1, by omega, by omega, by omega, by omega, by omega, h2.2, k, h6, by rw [h7]; congr 1; omega, h8⟩
theorem ready_not (n me floor : Int) (l : List S66) (h : (readyS n me floor l).2.1 = false) : (readyS n me floor l).1 = 0 := by
  unfold readyS at h ⊢
  by_cases h1 : (!sized n l.length) = true
  · rw [if_pos h1]
  rw [if_neg h1] at h ⊢
  by_cases h2 : (!(decide (0 ≤ me) && decide (me < n)) || !allFresh n me [] l) = true
  · rw [if_pos h2]
  rw [if_neg h2] at h ⊢
  by_cases h3 : (l.length : Int) < (n - 1) / 2 + 1 ∨ latest l < 0 ∨ latest l < floor
  · rw [if_pos h3]
  rw [if_neg h3] at h ⊢
  rcases findP_true n (latest l) l 0 _ rfl with ⟨_, h', _⟩ | ⟨h', _⟩
  · exact h'
  · rw [h'] at h; simp at h

/-! ### Ready, of whatever arguments -/
theorem ready_any (n me floor : Int) (A : Option Addr) (c : Nat) (l : List S66) (w : World) (hA : Kd.C k66 w A l.length l) :
    Calls Try.prog 23 #[.int .i64 n, .int .i64 me, .int .i64 floor, .slice A l.length c] w fun e w' => e = tup (readyS n me floor l) ∧ Below w.heap.size w w' := by
  by_cases hs : sized n l.length = true
  · by_cases hm : 0 ≤ me ∧ me < n
    · exact ready_go n me floor A c l w hA hs hm.1 hm.2
    · refine (ready_me n me floor A c l w hs (by omega)).mono ?_
      rintro e w' ⟨rfl, hB⟩
      refine ⟨?_, hB⟩
      have : readyS n me floor l = (0, false, 121) := by
        unfold readyS
        rw [if_neg (by simp [hs]), if_pos (by simp; omega)]
      rw [this]; rfl
  · rw [Bool.not_eq_true] at hs
    refine (ready_size n me floor A c l w hs).mono ?_
    rintro e w' ⟨rfl, hB⟩
    refine ⟨?_, hB⟩
    have : readyS n me floor l = (0, false, 120) := by
      unfold readyS
      rw [if_pos (by simp [hs])]
    rw [this]; rfl

/-- a block that holds the cells of a list -/
def cells66 (l : List S66) : List Value := l.flatMap fun p => [.int .i64 p.f0, .int .i64 p.f1, .bool p.f2]
theorem cells66_at : ∀ (l : List S66) (j : Nat) (p : S66), l[j]? = some p → ∀ i u, ([.int .i64 p.f0, .int .i64 p.f1, .bool p.f2] : List Value)[i]? = some u → (cells66 l)[j * 3 + i]? = some u
  | [], j, p, h, _, _, _ => by simp at h
  | x :: r, 0, p, h, i, u, hu => by
    have hi : i < 3 := by simpa using (List.getElem?_eq_some_iff.1 hu).1
    obtain rfl : x = p := by simpa using h
    show (([.int .i64 x.f0, .int .i64 x.f1, .bool x.f2] : List Value) ++ cells66 r)[0 * 3 + i]? = some u
    rw [List.getElem?_append_left (by simp; omega), Nat.zero_mul, Nat.zero_add]
    exact hu
  | x :: r, j + 1, p, h, i, u, hu => by
    show (([.int .i64 x.f0, .int .i64 x.f1, .bool x.f2] : List Value) ++ cells66 r)[(j + 1) * 3 + i]? = some u
    rw [List.getElem?_append_right (by simp; omega)]
    have := cells66_at r j p (by simpa using h) i u hu
    rw [← this]
    congr 1
    simp
    omega
theorem C_block {w : World} {b t : Nat} {fr : Nat × Nat} (l : List S66) (hl : l.length ≤ 1000) (h : w.heap[b]? = some (.cells (cells66 l).toArray t fr)) : Kd.C k66 w (some ⟨b, 0, none⟩) l.length l := by
  refine ⟨rfl, by omega, fun _ => ⟨_, rfl, fun j p hj => ⟨_, rfl, k66_mk w p, fun i u hu => ?_⟩⟩⟩
  show w.cell? _ = _
  rw [add_plain, Blk.cell h]
  show (cells66 l).toArray[j * 3 + i]? = some u
  simpa using cells66_at l j p hj i u hu
end Go.Proofs.Ytobnehbcnlhchaa.Ch
