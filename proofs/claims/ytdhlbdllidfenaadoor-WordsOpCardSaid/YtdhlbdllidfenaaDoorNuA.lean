/- Words: numbers as they are written, in plain terms. No program here. Conditions: none. -/
import Derived.Test.YtdhlbdllidfenaaDoorMem
import Derived.Lib.ItoaNum
import Derived.Lib.AtoiAll
namespace Go.Proofs.YtdhlbdllidfenaaDoor.Nu
set_option linter.unusedVariables false
set_option linter.unusedSimpArgs false
/-- the reference's loop: the digits from here on, n already read -/
def rnW : List UInt8 → Nat → Option Nat
  | [], n => some n
  | c :: r, n => if c.toNat < 48 ∨ 57 < c.toNat then none else if (9223372036854775807 - (c.toNat - 48)) / 10 < n then none else rnW r (10 * n + (c.toNat - 48))
def numL (l : List UInt8) : Option Nat := if l = [] ∨ (1 < l.length ∧ (l.getD 0 0).toNat = 48) then none else rnW l 0
theorem rn_snoc : ∀ (l : List UInt8) (c : UInt8) (n : Nat), rnW (l ++ [c]) n = (rnW l n).bind (fun m => rnW [c] m)
  | [], c, n => rfl
  | x :: l, c, n => by
    rw [List.cons_append]
    simp only [rnW]
    split
    · rfl
    · split
      · rfl
      · exact rn_snoc l c _
theorem rn_one (c : UInt8) (n : Nat) : rnW [c] n = if c.toNat < 48 ∨ 57 < c.toNat then none else if (9223372036854775807 - (c.toNat - 48)) / 10 < n then none else some (10 * n + (c.toNat - 48)) := rfl
theorem rn_parse : ∀ (l : List UInt8) (acc n : Nat), acc ≤ 9223372036854775807 → rnW l acc = some n → Lib.parseUint10 acc l = .ok n ∧ n ≤ 9223372036854775807
  | [], acc, n, ha, h => by
    simp only [rnW, Option.some.injEq] at h
    subst h
    exact ⟨rfl, ha⟩
  | c :: r, acc, n, ha, h => by
    simp only [rnW] at h
    split at h
    · cases h
    · split at h
      · cases h
      · rename_i h1 h2
        have hb : 10 * acc + (c.toNat - 48) ≤ 9223372036854775807 := by omega
        obtain ⟨a1, a2⟩ := rn_parse r _ n hb h
        refine ⟨?_, a2⟩
        simp only [Lib.parseUint10]
        rw [if_pos (by omega), if_neg (by omega), if_neg (by omega), show acc * 10 + (c.toNat - 48) = 10 * acc + (c.toNat - 48) by omega]
        exact a1
theorem dg_toNat {d : Nat} (h : d < 10) : (UInt8.ofNat (48 + d)).toNat = 48 + d := by rw [UInt8.toNat_ofNat']; omega
theorem dec_big {n : Nat} (h : ¬ n < 10) : Lib.decDigits n = Lib.decDigits (n / 10) ++ [UInt8.ofNat (48 + n % 10)] := by rw [Lib.decDigits, dif_neg h]
theorem dec_pos (n : Nat) : 0 < (Lib.decDigits n).length := by
  rw [Lib.decDigits]
  split
  · simp
  · simp
theorem dec_head : ∀ (n : Nat), 1 ≤ n → ((Lib.decDigits n).getD 0 0).toNat ≠ 48 ∧ 48 ≤ ((Lib.decDigits n).getD 0 0).toNat ∧ ((Lib.decDigits n).getD 0 0).toNat ≤ 57 := by
  intro n
  induction n using Nat.strongRecOn with
  | _ n ih =>
  intro h1
  by_cases h : n < 10
  · rw [Lib.decDigits_one h]
    show (UInt8.ofNat (48 + n)).toNat ≠ 48 ∧ 48 ≤ (UInt8.ofNat (48 + n)).toNat ∧ (UInt8.ofNat (48 + n)).toNat ≤ 57
    rw [dg_toNat h]
    omega
  · have := ih (n / 10) (by omega) (by omega)
    have hp := dec_pos (n / 10)
    rw [dec_big h, List.getD_eq_getElem?_getD, List.getElem?_append_left hp, ← List.getD_eq_getElem?_getD]
    exact this
theorem dec_rn : ∀ (n : Nat), n ≤ 9223372036854775807 → rnW (Lib.decDigits n) 0 = some n := by
  intro n
  induction n using Nat.strongRecOn with
  | _ n ih =>
  intro hn
  by_cases h : n < 10
  · rw [Lib.decDigits_one h, rn_one, dg_toNat h, if_neg (by omega), if_neg (by omega)]
    congr 1
    omega
  · rw [dec_big h, rn_snoc, ih (n / 10) (by omega) (by omega)]
    show rnW [_] (n / 10) = _
    rw [rn_one, dg_toNat (by omega), if_neg (by omega), if_neg (by omega)]
    congr 1
    omega
theorem num_dec (n : Nat) (hn : n ≤ 9223372036854775807) : numL (Lib.decDigits n) = some n := by
  unfold numL
  rw [if_neg, dec_rn n hn]
  intro h
  have hp := dec_pos n
  rcases h with h | ⟨h1, h2⟩
  · rw [h] at hp; simp at hp
  · rcases Nat.eq_zero_or_pos n with rfl | h0
    · rw [Lib.decDigits_one (by omega)] at h1
      simp at h1
    · exact (dec_head n h0).1 h2
theorem num_is : ∀ (k : Nat) (l : List UInt8) (n : Nat), l.length ≤ k → numL l = some n → l = Lib.decDigits n
  | k, l, n, hk, h => by
    unfold numL at h
    split at h
    · cases h
    · rename_i hne
      have hl : l ≠ [] := fun e => hne (.inl e)
      obtain ⟨a, c, rfl⟩ : ∃ a c, l = a ++ [c] := ⟨l.dropLast, l.getLast hl, (List.dropLast_concat_getLast hl).symm⟩
      rw [rn_snoc] at h
      obtain ⟨m, h1, h2⟩ := Option.bind_eq_some_iff.1 h
      rw [rn_one] at h2
      split at h2
      · cases h2
      rename_i hd
      split at h2
      · cases h2
      simp only [Option.some.injEq] at h2
      have hc : c = UInt8.ofNat (48 + (c.toNat - 48)) := by rw [show 48 + (c.toNat - 48) = c.toNat by omega, UInt8.ofNat_toNat]
      match k, a, hk with
      | _, [], _ =>
        simp only [rnW, Option.some.injEq] at h1
        subst h1
        rw [List.nil_append, Lib.decDigits_one (by omega), hc]
        congr 2
        omega
      | 0, x :: a, hk => simp at hk
      | k + 1, x :: a, hk =>
        have hx : x.toNat ≠ 48 := fun e => hne (.inr ⟨by simp, e⟩)
        have hm : numL (x :: a) = some m := by
          unfold numL
          rw [if_neg (fun z => by
            rcases z with z | ⟨_, z⟩
            · cases z
            · exact hx z)]
          exact h1
        have ih := num_is k (x :: a) m (by simp at hk ⊢; omega) hm
        have hm0 : m ≠ 0 := by
          rintro rfl
          rw [Lib.decDigits_one (by omega)] at ih
          injection ih with ih _
          rw [ih] at hx
          exact hx (dg_toNat (d := 0) (by omega))
        have hn10 : ¬ n < 10 := by omega
        rw [ih, dec_big hn10, show n / 10 = m by omega, show n % 10 = c.toNat - 48 by omega, ← hc]
theorem num_some {l : List UInt8} {n : Nat} (h : numL l = some n) : Lib.atoiAll l = .ok (n : Int) ∧ Lib.itoa (n : Int) = l ∧ n ≤ 9223372036854775807 := by
  have hl := num_is _ l n (Nat.le_refl _) h
  have hr : rnW l 0 = some n := by
    unfold numL at h
    split at h
    · cases h
    · exact h
  obtain ⟨a1, a2⟩ := rn_parse l 0 n (by omega) hr
  refine ⟨?_, ?_, a2⟩
  · have hh : 48 ≤ (l.getD 0 0).toNat ∧ (l.getD 0 0).toNat ≤ 57 := by
      rcases Nat.eq_zero_or_pos n with rfl | h0
      · rw [hl, Lib.decDigits_one (by omega)]
        decide
      · rw [hl]; exact (dec_head n h0).2
    match l, hh, a1 with
    | [], hh, a1 => exact absurd hh.1 (by decide)
    | c :: r, hh, a1 =>
      have hh : 48 ≤ c.toNat ∧ c.toNat ≤ 57 := hh
      unfold Lib.atoiAll
      simp only []
      rw [if_neg (by omega)]
      unfold Lib.parseMag
      rw [if_neg (by simp), a1]
      simp only []
      rw [if_neg (by omega), if_neg (by omega), if_neg (by omega)]
  · unfold Lib.itoa
    rw [if_neg (by omega), Int.toNat_natCast, ← hl]
theorem num_none {l : List UInt8} {v : Int} (h : numL l = none) (ha : Lib.atoiAll l = .ok v) : v < 0 ∨ Lib.itoa v ≠ l := by
  by_cases hv : v < 0
  · exact .inl hv
  · refine .inr (fun e => ?_)
    have hle : v ≤ 9223372036854775807 := by
      unfold Lib.atoiAll at ha
      split at ha
      · cases ha
      · simp only [] at ha
        split at ha
        · cases ha
        · cases ha
        · split at ha
          · cases ha
          · rename_i h1
            split at ha
            · cases ha
            · injection ha with ha
              split at ha <;> omega
    unfold Lib.itoa at e
    rw [if_neg hv] at e
    have := num_dec v.toNat (by omega)
    rw [e, h] at this
    cases this
theorem atoi_ok_le {l : List UInt8} {v : Int} (ha : Lib.atoiAll l = .ok v) : -9223372036854775808 ≤ v ∧ v ≤ 9223372036854775807 := by
  unfold Lib.atoiAll at ha
  split at ha
  · cases ha
  · simp only [] at ha
    split at ha
    · cases ha
    · cases ha
    · split at ha
      · cases ha
      · rename_i h1
        split at ha
        · cases ha
        · rename_i h2
          injection ha with ha
          split at ha <;> omega
end Go.Proofs.YtdhlbdllidfenaaDoor.Nu
