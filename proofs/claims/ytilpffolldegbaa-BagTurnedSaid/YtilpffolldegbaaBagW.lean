/- What is known of the bytes in a bag: the plain law of BagTurned. No program here. Conditions: none. -/
import Derived.Test.YtilpffolldegbaaBagV
namespace Go.Proofs.Ytilpffolldegbaa.Bg
open Go.RowKit Go.Proofs.Ytilpffolldegbaa.Mem
set_option linter.unusedVariables false
set_option linter.unusedSimpArgs false

/-- ds: the bytes with which each Num was laid in -/
structure TInv (s : St) (ds : List (List UInt8)) : Prop where
  laid : s.laid = (ds.length : Int)
  pk : ∀ p ∈ s.ps, 1 ≤ p.num ∧ p.num ≤ (ds.length : Int) ∧ ∃ d, ds[(p.num - 1).toNat]? = some d ∧ Near p d
theorem TInv.init (room : Int) : TInv ⟨room, 0, []⟩ [] := ⟨rfl, fun p hp => by cases hp⟩
/-- what comes to the sources by a step: none, or one list -/
def tnew (s : St) (ds : List (List UInt8)) (o : OpV) (e : Int) : Option (List UInt8) :=
  if e = 0 ∧ o.kind = 0 then some o.data else if e = 0 ∧ o.kind = 2 then some ((s.ps[o.a.toNat]?.bind fun p => ds[(p.num - 1).toNat]?).getD []) else none
def tgrow (ds : List (List UInt8)) : Option (List UInt8) → List (List UInt8)
  | some d => ds ++ [d]
  | none => ds
theorem near_self (n fr to age : Int) (d : List UInt8) : Near ⟨n, fr, to, age, 0, d⟩ d := ⟨rfl, Int.le_refl _, by simp, fun i u v hu hv => .inl (Option.some.inj (hu.symm.trans hv))⟩
theorem Near.renum {p : Pk} {d : List UInt8} (h : Near p d) (n a : Int) : Near { p with num := n, age := a } d := h
theorem lay_t {s : St} {ds : List (List UInt8)} (h : TInv s ds) (p : Pk) (d : List UInt8) (hp : Near p d) : ((layS s p).2 = 0 → TInv (layS s p).1 (ds ++ [d])) ∧ ((layS s p).2 ≠ 0 → (layS s p).1 = s) := by
  unfold layS
  by_cases hf : s.room ≤ (s.ps.length : Int)
  · rw [if_pos hf]
    exact ⟨fun h => by simp at h, fun _ => rfl⟩
  · rw [if_neg hf]
    have hl := h.laid
    refine ⟨fun _ => ⟨?_, ?_⟩, fun h => absurd rfl h⟩
    · show s.laid + 1 = ((ds ++ [d]).length : Int)
      rw [h.laid, List.length_append]; simp
    · intro q hq
      rcases List.mem_append.1 hq with hq | hq
      · obtain ⟨h1, h2, d', h3, h4⟩ := h.pk q hq
        refine ⟨h1, by rw [List.length_append]; omega, d', ?_, h4⟩
        rw [List.getElem?_append_left (List.getElem?_eq_some_iff.1 h3).1]
        exact h3
      · simp at hq
        subst hq
        refine ⟨by dsimp only; omega, by rw [List.length_append]; simp; omega, d, ?_, hp.renum _ _⟩
        show (ds ++ [d])[(s.laid + 1 - 1).toNat]? = some d
        rw [show (s.laid + 1 - 1).toNat = ds.length by omega, List.getElem?_append_right (Nat.le_refl _), Nat.sub_self]
        rfl
theorem flip_near {p : Pk} {d : List UInt8} (h : Near p d) (x y : Int) (hx : 0 ≤ x ∧ x < (p.data.length : Int)) (ht : ¬ (p.turned ≠ 0 ∧ p.turned ≠ x + 1)) : Near (flipP p x y) d := by
  obtain ⟨h1, h2, h3, h4⟩ := h
  refine ⟨by unfold flipP; dsimp only; rw [List.length_set]; exact h1, by unfold flipP; dsimp only; omega, by unfold flipP; dsimp only; omega, fun i u v hu hv => ?_⟩
  unfold flipP at hu ⊢
  dsimp only at hu ⊢
  by_cases hi : (i : Int) = x
  · exact .inr (by omega)
  · rw [List.getElem?_set_ne (by omega)] at hu
    rcases h4 i u v hu hv with h | h
    · exact .inl h
    · exfalso
      have : p.turned = 0 ∨ p.turned = x + 1 := by omega
      omega
/-- a refused step changes nothing; a step keeps what is known -/
theorem one_t {s : St} {ds : List (List UInt8)} (h : TInv s ds) (o : OpV) : ((oneS s o).2 ≠ 0 → (oneS s o).1 = s) ∧ TInv (oneS s o).1 (tgrow ds (tnew s ds o (oneS s o).2)) ∧
    ((oneS s o).2 = 0 ∧ o.kind = 2 → ∃ (k : Nat) (p : Pk) (d : List UInt8), o.a = (k : Int) ∧ s.ps[k]? = some p ∧ 1 ≤ p.num ∧ p.num ≤ (ds.length : Int) ∧ ds[(p.num - 1).toNat]? = some d ∧ tnew s ds o (oneS s o).2 = some d) := by
  unfold oneS tnew
  by_cases k0 : o.kind = 0
  · rw [if_pos k0]
    refine ⟨?_, ?_, fun q => by omega⟩
    · unfold addS
      split
      · exact (lay_t h _ o.data (near_self 0 o.a o.b 0 o.data)).2
      · exact fun _ => rfl
    · unfold addS
      by_cases he : endS o.a = true ∧ endS o.b = true
      · rw [if_pos he]
        have hl := lay_t h ⟨0, o.a, o.b, 0, 0, o.data⟩ o.data (near_self 0 o.a o.b 0 o.data)
        by_cases hz : (layS s ⟨0, o.a, o.b, 0, 0, o.data⟩).2 = 0
        · rw [if_pos ⟨hz, k0⟩]; exact hl.1 hz
        · rw [if_neg (fun q => hz q.1), if_neg (fun q => hz q.1), hl.2 hz]; exact h
      · rw [if_neg he, if_neg (fun q => by simp at q), if_neg (fun q => by simp at q)]; exact h
  rw [if_neg k0]
  have hk0 : ∀ e : Int, (if e = 0 ∧ o.kind = 0 then some o.data else if e = 0 ∧ o.kind = 2 then some ((s.ps[o.a.toNat]?.bind fun p => ds[(p.num - 1).toNat]?).getD []) else none) = (if e = 0 ∧ o.kind = 2 then some ((s.ps[o.a.toNat]?.bind fun p => ds[(p.num - 1).toNat]?).getD []) else none) := fun e => if_neg (fun q => k0 q.2)
  simp only [hk0]
  by_cases k1 : o.kind = 1
  · rw [if_pos k1]
    refine ⟨?_, ?_, fun q => by omega⟩
    · unfold takeS
      split
      · exact fun q => absurd rfl q
      · exact fun _ => rfl
    · rw [if_neg (fun q => by omega)]
      unfold takeS
      split
      · exact ⟨h.laid, fun q hq => h.pk q (List.mem_of_mem_eraseIdx hq)⟩
      · exact h
  rw [if_neg k1]
  by_cases k2 : o.kind = 2
  · rw [if_pos k2]
    unfold dupS
    split
    · rename_i p hp
      split at hp
      · rename_i h0
        obtain ⟨k, hk⟩ := Int.eq_ofNat_of_zero_le h0
        rw [hk, Int.toNat_natCast] at hp ⊢
        have hmem : p ∈ s.ps := List.mem_of_getElem? hp
        obtain ⟨h1, h2, d, h3, h4⟩ := h.pk p hmem
        have hl := lay_t h p d h4
        have hd : ((s.ps[k]?.bind fun p => ds[(p.num - 1).toNat]?).getD []) = d := by rw [hp, Option.bind_some, h3, Option.getD_some]
        refine ⟨hl.2, ?_, fun q => ⟨k, p, d, rfl, hp, h1, h2, h3, ?_⟩⟩
        · by_cases hz : (layS s p).2 = 0
          · rw [if_pos ⟨hz, k2⟩, hd]; exact hl.1 hz
          · rw [if_neg (fun q => hz q.1), hl.2 hz]; exact h
        · rw [if_pos q, hd]
      · cases hp
    · refine ⟨fun _ => rfl, ?_, fun q => by simp at q⟩
      rw [if_neg (fun q => by simp at q)]; exact h
  rw [if_neg k2]
  have hk2 : ∀ e : Int, (if e = 0 ∧ o.kind = 2 then some ((s.ps[o.a.toNat]?.bind fun p => ds[(p.num - 1).toNat]?).getD []) else none) = none := fun e => if_neg (fun q => k2 q.2)
  simp only [hk2]
  by_cases k3 : o.kind = 3
  · rw [if_pos k3]
    refine ⟨?_, ?_, fun q => by omega⟩
    · unfold flipS
      split
      · split
        · exact fun _ => rfl
        · split
          · exact fun _ => rfl
          · exact fun q => absurd rfl q
      · exact fun _ => rfl
    · unfold flipS
      split
      · rename_i p hp
        split at hp
        · split
          · exact h
          · split
            · exact h
            · rename_i hx hy
              refine ⟨h.laid, fun q hq => ?_⟩
              rcases List.mem_or_eq_of_mem_set hq with hq | rfl
              · exact h.pk q hq
              · obtain ⟨h1, h2, d, h3, h4⟩ := h.pk p (List.mem_of_getElem? hp)
                exact ⟨h1, h2, d, h3, flip_near h4 _ _ (by omega) (fun q => hy (.inr (.inr q)))⟩
        · cases hp
      · exact h
  rw [if_neg k3]
  by_cases k4 : o.kind = 4
  · rw [if_pos k4]
    refine ⟨fun q => absurd rfl q, ⟨h.laid, fun q hq => ?_⟩, fun q => by omega⟩
    obtain ⟨p, hp, rfl⟩ := List.mem_map.1 hq
    exact h.pk p hp
  · rw [if_neg k4]
    exact ⟨fun _ => rfl, h, fun q => by omega⟩
end Go.Proofs.Ytilpffolldegbaa.Bg
