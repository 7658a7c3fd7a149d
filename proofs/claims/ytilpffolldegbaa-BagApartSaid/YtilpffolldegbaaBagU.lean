/- What counts tell of a bag: the plain law. No program here. Conditions: none. -/
import Derived.Test.YtilpffolldegbaaBagQ
namespace Go.Proofs.Ytilpffolldegbaa.Bg
open Go.RowKit Go.Proofs.Ytilpffolldegbaa.Mem
set_option linter.unusedVariables false
set_option linter.unusedSimpArgs false

/-- what was counted: laid in, taken, how often older, and when each was laid in -/
structure Cnt where (laid taken olders : Nat) (born : List Int)
structure CInv (s : St) (c : Cnt) : Prop where
  laid : s.laid = (c.laid : Int)
  born : c.born.length = c.laid
  many : s.ps.length + c.taken = c.laid
  rise : s.ps.Pairwise (fun p q => p.num < q.num)
  pk : ∀ p ∈ s.ps, 1 ≤ p.num ∧ p.num ≤ (c.laid : Int) ∧ p.age = (c.olders : Int) - c.born.getD (p.num - 1).toNat 0
def Cnt.lay (c : Cnt) : Cnt := { c with laid := c.laid + 1, born := c.born ++ [(c.olders : Int)] }
def Cnt.take (c : Cnt) : Cnt := { c with taken := c.taken + 1 }
def Cnt.older (c : Cnt) : Cnt := { c with olders := c.olders + 1 }
theorem CInv.init (room : Int) : CInv ⟨room, 0, []⟩ ⟨0, 0, 0, []⟩ := ⟨rfl, rfl, rfl, List.Pairwise.nil, fun p hp => by cases hp⟩
theorem getD_append {l : List Int} {x : Int} {i : Nat} (h : i < l.length) : (l ++ [x]).getD i 0 = l.getD i 0 := by
  simp [List.getD_eq_getElem?_getD, List.getElem?_append_left h]
theorem lay_inv {s : St} {c : Cnt} (h : CInv s c) (p : Pk) : ((layS s p).2 = 0 → CInv (layS s p).1 c.lay) ∧ ((layS s p).2 ≠ 0 → (layS s p).1 = s) := by
  unfold layS
  by_cases hf : s.room ≤ (s.ps.length : Int)
  · rw [if_pos hf]
    exact ⟨fun h => by simp at h, fun _ => rfl⟩
  · rw [if_neg hf]
    refine ⟨fun _ => ⟨?_, ?_, ?_, ?_, ?_⟩, fun h => absurd rfl h⟩
    · show s.laid + 1 = ((c.laid + 1 : Nat) : Int)
      rw [h.laid]; omega
    · show (c.born ++ [_]).length = c.laid + 1
      rw [List.length_append, h.born]; rfl
    · show (s.ps ++ [_]).length + c.taken = c.laid + 1
      have := h.many
      rw [List.length_append]; simp; omega
    · refine List.pairwise_append.2 ⟨h.rise, List.pairwise_singleton _ _, fun a ha b hb => ?_⟩
      simp at hb
      subst hb
      have h1 := (h.pk a ha).2.1
      have h2 := h.laid
      show a.num < s.laid + 1
      omega
    · intro q hq
      rcases List.mem_append.1 hq with hq | hq
      · obtain ⟨h1, h2, h3⟩ := h.pk q hq
        refine ⟨h1, by show q.num ≤ ((c.laid + 1 : Nat) : Int); omega, ?_⟩
        show q.age = (c.olders : Int) - (c.born ++ [(c.olders : Int)]).getD (q.num - 1).toNat 0
        rw [getD_append (by rw [h.born]; omega)]
        exact h3
      · simp at hq
        subst hq
        have h2 := h.laid
        refine ⟨by dsimp only; omega, by show s.laid + 1 ≤ ((c.laid + 1 : Nat) : Int); omega, ?_⟩
        show (0 : Int) = (c.olders : Int) - (c.born ++ [(c.olders : Int)]).getD (s.laid + 1 - 1).toNat 0
        rw [show (s.laid + 1 - 1).toNat = c.born.length by rw [h.born]; omega]
        simp [List.getD_eq_getElem?_getD]
theorem same_pk {s : St} {c : Cnt} (h : CInv s c) (k : Nat) (p' : Pk) (hk : k < s.ps.length) (h1 : p'.num = s.ps[k].num) (h2 : p'.age = s.ps[k].age) : CInv { s with ps := s.ps.set k p' } c := by
  have hnum : ∀ i (hi : i < (s.ps.set k p').length), (s.ps.set k p')[i].num = (s.ps[i]'(by rw [List.length_set] at hi; exact hi)).num := by
    intro i hi
    rw [List.getElem_set]
    split
    · rename_i e; subst e; exact h1
    · rfl
  refine ⟨h.laid, h.born, by dsimp only; rw [List.length_set]; exact h.many, ?_, fun q hq => ?_⟩
  · refine List.pairwise_iff_getElem.2 fun i j hi hj hij => ?_
    rw [hnum i hi, hnum j hj]
    rw [List.length_set] at hi hj
    exact List.pairwise_iff_getElem.1 h.rise i j hi hj hij
  · rcases List.mem_or_eq_of_mem_set hq with hq | hq
    · exact h.pk q hq
    · rw [hq, h1, h2]; exact h.pk _ (List.getElem_mem _)
/-- how a step turns the counts -/
def cstep (c : Cnt) (o : OpV) (e : Int) : Cnt := if e = 0 ∧ (o.kind = 0 ∨ o.kind = 2) then c.lay else if e = 0 ∧ o.kind = 1 then c.take else if o.kind = 4 then c.older else c
theorem one_inv {s : St} {c : Cnt} (h : CInv s c) (o : OpV) : CInv (oneS s o).1 (cstep c o (oneS s o).2) := by
  unfold oneS cstep
  by_cases k0 : o.kind = 0
  · rw [if_pos k0]
    unfold addS
    by_cases he : endS o.a = true ∧ endS o.b = true
    · rw [if_pos he]
      by_cases hz : (layS s ⟨0, o.a, o.b, 0, 0, o.data⟩).2 = 0
      · rw [if_pos ⟨hz, .inl k0⟩]; exact (lay_inv h _).1 hz
      · rw [if_neg (fun q => hz q.1), if_neg (fun q => hz q.1), if_neg (by omega), (lay_inv h _).2 hz]; exact h
    · rw [if_neg he, if_neg (fun q => by simp at q), if_neg (fun q => by simp at q), if_neg (by omega)]; exact h
  rw [if_neg k0]
  by_cases k1 : o.kind = 1
  · rw [if_pos k1]
    unfold takeS
    by_cases hi : 0 ≤ o.a ∧ o.a < (s.ps.length : Int)
    · rw [if_pos hi, if_neg (by omega), if_pos ⟨rfl, k1⟩]
      obtain ⟨k, hk⟩ := Int.eq_ofNat_of_zero_le hi.1
      rw [hk, Int.toNat_natCast]
      have hkl : k < s.ps.length := by omega
      refine ⟨h.laid, h.born, ?_, ?_, fun q hq => h.pk q (List.mem_of_mem_eraseIdx hq)⟩
      · show (s.ps.eraseIdx k).length + (c.taken + 1) = c.laid
        have := h.many
        rw [List.length_eraseIdx, if_pos hkl]; omega
      · exact h.rise.sublist (List.eraseIdx_sublist _ _)
    · rw [if_neg hi, if_neg (by omega), if_neg (fun q => by simp at q), if_neg (by omega)]; exact h
  rw [if_neg k1]
  by_cases k2 : o.kind = 2
  · rw [if_pos k2]
    unfold dupS
    split
    · rename_i p hp
      by_cases hz : (layS s p).2 = 0
      · rw [if_pos ⟨hz, .inr k2⟩]; exact (lay_inv h _).1 hz
      · rw [if_neg (fun q => hz q.1), if_neg (fun q => hz q.1), if_neg (by omega), (lay_inv h _).2 hz]; exact h
    · rw [if_neg (fun q => by simp at q), if_neg (fun q => by simp at q), if_neg (by omega)]; exact h
  rw [if_neg k2]
  have hcs : ∀ e : Int, (if e = 0 ∧ (o.kind = 0 ∨ o.kind = 2) then c.lay else if e = 0 ∧ o.kind = 1 then c.take else if o.kind = 4 then c.older else c) = (if o.kind = 4 then c.older else c) := fun e => by rw [if_neg (fun q => q.2.elim k0 k2), if_neg (fun q => k1 q.2)]
  rw [hcs]
  by_cases k3 : o.kind = 3
  · rw [if_pos k3, if_neg (by omega)]
    unfold flipS
    split
    · rename_i p hp
      split at hp
      · split
        · exact h
        · split
          · exact h
          · obtain ⟨hk, he⟩ := List.getElem?_eq_some_iff.1 hp
            exact same_pk h _ _ hk (by rw [he]; rfl) (by rw [he]; rfl)
      · cases hp
    · exact h
  rw [if_neg k3]
  by_cases k4 : o.kind = 4
  · rw [if_pos k4, if_pos k4]
    refine ⟨h.laid, h.born, by show (s.ps.map _).length + _ = _; rw [List.length_map]; exact h.many, ?_, fun q hq => ?_⟩
    · show (s.ps.map Pk.old).Pairwise _
      rw [List.pairwise_map]
      exact h.rise
    · obtain ⟨p, hp, rfl⟩ := List.mem_map.1 hq
      obtain ⟨h1, h2, h3⟩ := h.pk p hp
      refine ⟨h1, h2, ?_⟩
      show p.age + 1 = ((c.olders + 1 : Nat) : Int) - _
      rw [h3]
      show _ = _ - c.born.getD (p.num - 1).toNat 0
      omega
  · rw [if_neg k4, if_neg k4]; exact h
theorem cstep_le (c : Cnt) (o : OpV) (e : Int) : (cstep c o e).laid ≤ c.laid + 1 ∧ (cstep c o e).taken ≤ c.taken + 1 ∧ (cstep c o e).olders ≤ c.olders + 1 := by
  unfold cstep
  split
  · exact ⟨Nat.le_refl _, by show c.taken ≤ _; omega, by show c.olders ≤ _; omega⟩
  · split
    · exact ⟨by show c.laid ≤ _; omega, Nat.le_refl _, by show c.olders ≤ _; omega⟩
    · split
      · exact ⟨by show c.laid ≤ _; omega, by show c.taken ≤ _; omega, Nat.le_refl _⟩
      · omega
end Go.Proofs.Ytilpffolldegbaa.Bg
