/- Plain laws: what is sealed is opened; what is opened is sealed; a byte turned is told. No program here. Conditions: none. -/
import Derived.Test.YtfpjdgkooikeoaaDoorSealI
namespace Go.Proofs.YtfpjdgkooikeoaaDoor.Sl
open Go.RowKit Go.Proofs.YtfpjdgkooikeoaaDoor.Mem
set_option linter.unusedVariables false
set_option linter.unusedSimpArgs false
/-! ### what a whole head says -/
theorem head_len (n : Nat) (hn : n ≤ 65536) (r : List UInt8) : lenL (headL n ++ r) = n := by
  unfold lenL headL
  simp only [List.cons_append, List.getD_cons_succ, List.getD_cons_zero]
  rw [ofNat_u8 _ (Nat.mod_lt _ (by omega)), ofNat_u8 _ (Nat.mod_lt _ (by omega)), ofNat_u8 _ (Nat.mod_lt _ (by omega))]
  omega
theorem head_mark (n : Nat) (r : List UInt8) : ¬ badMark (headL n ++ r) := by unfold badMark headL; simp
theorem head_take (n : Nat) (r : List UInt8) : (headL n ++ r).take 5 = headL n := rfl
theorem head_drop (n : Nat) (r : List UInt8) : (headL n ++ r).drop 5 = r := rfl
theorem sum_take (l r : List UInt8) : (sumB l ++ r).take 4 = sumB l := rfl
theorem nine_drop (n : Nat) (s r : List UInt8) (hs : s.length = 4) (i : Nat) : (headL n ++ (s ++ r)).drop (9 + i) = r.drop i := by
  rw [show 9 + i = 5 + (4 + i) by omega, ← List.drop_drop, head_drop, ← List.drop_drop, ← hs, List.drop_left' rfl]
/-- a head that is whole: what is left to be looked at -/
theorem openE_head (n : Nat) (hn : n ≤ 65536) (s r : List UInt8) (hs : s.length = 4) : openE (headL n ++ (s ++ r)) = if s ≠ sumB (headL n) then 24 else if r.length < n + 4 then 21 else if n + 4 < r.length then 23 else if r.drop n ≠ sumB (r.take n) then 24 else 0 := by
  have hl : (headL n ++ (s ++ r)).length = 9 + r.length := by simp only [List.length_append, headL_len, hs]; omega
  unfold openE
  rw [if_neg (head_mark _ _), hl, if_neg (by omega), head_drop, head_take, ← hs, List.take_left' rfl, hs, head_len n hn, nine_drop n s r hs]
  by_cases h : s ≠ sumB (headL n)
  · rw [if_pos h, if_pos h]
  rw [if_neg h, if_neg h, if_neg (by omega)]
  by_cases h1 : r.length < n + 4
  · rw [if_pos h1, if_pos (by omega)]
  rw [if_neg h1, if_neg (by omega)]
  by_cases h2 : n + 4 < r.length
  · rw [if_pos h2, if_pos (by omega)]
  rw [if_neg h2, if_neg (by omega)]
  have hm : midL (headL n ++ (s ++ r)) = r.take n := by
    unfold midL
    rw [head_len n hn, show 9 = 9 + 0 from rfl, nine_drop n s r hs, List.drop_zero]
  rw [hm]
theorem seal_shape (p : List UInt8) : sealL p = headL p.length ++ (sumB (headL p.length) ++ (p ++ sumB p)) := by unfold sealL; simp only [List.append_assoc]
theorem open_seal (p : List UInt8) (hn : p.length ≤ 65536) : openE (sealL p) = 0 ∧ openP (sealL p) = p := by
  have h0 : openE (sealL p) = 0 := by
    rw [seal_shape, openE_head _ hn _ _ (sumB_len _), if_neg (by simp), List.length_append, sumB_len, if_neg (by omega), if_neg (by omega), List.take_left' rfl, List.drop_left' rfl, if_neg (by simp)]
  refine ⟨h0, ?_⟩
  unfold openP
  rw [if_pos h0]
  unfold midL
  rw [seal_shape, head_len _ hn, show 9 = 9 + 0 from rfl, nine_drop _ _ _ (sumB_len _), List.drop_zero, List.take_left' rfl]
theorem open_more (p k : List UInt8) (hn : p.length ≤ 65536) (hk : 0 < k.length) : openE (sealL p ++ k) = 23 := by
  rw [seal_shape, List.append_assoc, List.append_assoc, openE_head _ hn _ _ (sumB_len _), if_neg (by simp), List.length_append, List.length_append, sumB_len, if_neg (by omega), if_pos (by omega)]
theorem getD_take (l : List UInt8) (k i : Nat) (h : i < k) : (l.take k).getD i 0 = l.getD i 0 := by
  rw [List.getD_eq_getElem?_getD, List.getD_eq_getElem?_getD, List.getElem?_take, if_pos h]
theorem open_cut (p : List UInt8) (hn : p.length ≤ 65536) (k : Nat) (hk : k < p.length + 13) : openE ((sealL p).take k) = 21 := by
  have hl : ((sealL p).take k).length = k := by rw [List.length_take, sealL_len]; omega
  by_cases h9 : k < 9
  · unfold openE
    have : ¬ badMark ((sealL p).take k) := by
      unfold badMark
      rw [hl]
      have h0 : (sealL p).getD 0 0 = 0x46 := rfl
      have h1 : (sealL p).getD 1 0 = 0x4C := rfl
      rintro (⟨a, b⟩ | ⟨a, b⟩)
      · rw [getD_take _ _ _ a] at b; exact b h0
      · rw [getD_take _ _ _ a] at b; exact b h1
    rw [if_neg this, hl, if_pos h9]
  · have hs : (sealL p).take k = headL p.length ++ (sumB (headL p.length) ++ (p ++ sumB p).take (k - 9)) := by
      rw [seal_shape, List.take_append, headL_len, List.take_of_length_le (by rw [headL_len]; omega), List.take_append, sumB_len, List.take_of_length_le (by rw [sumB_len]; omega), show k - 5 - 4 = k - 9 by omega]
    rw [hs, openE_head _ hn _ _ (sumB_len _), if_neg (by simp), List.length_take, List.length_append, sumB_len, if_pos (by omega)]
theorem five (b : List UInt8) (h : ¬ b.length < 9) : ∃ x0 x1 x2 x3 x4 r, b = x0 :: x1 :: x2 :: x3 :: x4 :: r := by
  rcases b with _ | ⟨x0, b⟩
  · simp at h
  rcases b with _ | ⟨x1, b⟩
  · simp at h
  rcases b with _ | ⟨x2, b⟩
  · simp at h
  rcases b with _ | ⟨x3, b⟩
  · simp at h
  rcases b with _ | ⟨x4, b⟩
  · simp at h
  exact ⟨_, _, _, _, _, _, rfl⟩
theorem head_of (b : List UInt8) (h1 : ¬ badMark b) (h2 : ¬ b.length < 9) : b.take 5 = headL (lenL b) := by
  obtain ⟨x0, x1, x2, x3, x4, r, rfl⟩ := five b h2
  have e0 : x0 = 0x46 := by
    refine Classical.byContradiction fun q => h1 (.inl ⟨by simp, ?_⟩)
    exact q
  have e1 : x1 = 0x4C := by
    refine Classical.byContradiction fun q => h1 (.inr ⟨by simp, ?_⟩)
    exact q
  have l2 := x2.toNat_lt
  have l3 := x3.toNat_lt
  have l4 := x4.toNat_lt
  unfold headL lenL
  simp only [List.take_succ_cons, List.take_zero, List.getD_cons_succ, List.getD_cons_zero]
  rw [e0, e1]
  have g2 : UInt8.ofNat ((x2.toNat + x3.toNat * 256 + x4.toNat * 65536) % 256) = x2 := by rw [show (x2.toNat + x3.toNat * 256 + x4.toNat * 65536) % 256 = x2.toNat by omega, UInt8.ofNat_toNat]
  have g3 : UInt8.ofNat ((x2.toNat + x3.toNat * 256 + x4.toNat * 65536) / 256 % 256) = x3 := by rw [show (x2.toNat + x3.toNat * 256 + x4.toNat * 65536) / 256 % 256 = x3.toNat by omega, UInt8.ofNat_toNat]
  have g4 : UInt8.ofNat ((x2.toNat + x3.toNat * 256 + x4.toNat * 65536) / 65536 % 256) = x4 := by rw [show (x2.toNat + x3.toNat * 256 + x4.toNat * 65536) / 65536 % 256 = x4.toNat by omega, UInt8.ofNat_toNat]
  rw [g2, g3, g4]
/-- what Open takes is what Seal makes of its answer -/
theorem seal_open (b : List UInt8) (h : openE b = 0) : (openP b).length ≤ 65536 ∧ sealL (openP b) = b := by
  have hp : openP b = midL b := by unfold openP; rw [if_pos h]
  unfold openE at h
  by_cases h1 : badMark b
  · rw [if_pos h1] at h; simp at h
  rw [if_neg h1] at h
  by_cases h2 : b.length < 9
  · rw [if_pos h2] at h; simp at h
  rw [if_neg h2] at h
  by_cases h3 : (b.drop 5).take 4 ≠ sumB (b.take 5)
  · rw [if_pos h3] at h; simp at h
  rw [if_neg h3] at h
  by_cases h4 : 65536 < lenL b
  · rw [if_pos h4] at h; simp at h
  rw [if_neg h4] at h
  by_cases h5 : b.length < lenL b + 13
  · rw [if_pos h5] at h; simp at h
  rw [if_neg h5] at h
  by_cases h6 : lenL b + 13 < b.length
  · rw [if_pos h6] at h; simp at h
  rw [if_neg h6] at h
  by_cases h7 : b.drop (9 + lenL b) ≠ sumB (midL b)
  · rw [if_pos h7] at h; simp at h
  have h3' : (b.drop 5).take 4 = sumB (b.take 5) := Classical.not_not.1 h3
  have h7' : b.drop (9 + lenL b) = sumB (midL b) := Classical.not_not.1 h7
  have hml : (midL b).length = lenL b := by unfold midL; rw [List.length_take, List.length_drop]; omega
  have hh : b.take 5 = headL (lenL b) := head_of b h1 h2
  rw [hp]
  refine ⟨by rw [hml]; omega, ?_⟩
  unfold sealL
  rw [hml, ← hh, ← h3', ← h7']
  unfold midL
  conv => rhs; rw [← List.take_append_drop 5 b, ← List.take_append_drop 4 (b.drop 5), List.drop_drop, ← List.take_append_drop (lenL b) (b.drop (5 + 4)), List.drop_drop]
  simp only [List.append_assoc]
end Go.Proofs.YtfpjdgkooikeoaaDoor.Sl
