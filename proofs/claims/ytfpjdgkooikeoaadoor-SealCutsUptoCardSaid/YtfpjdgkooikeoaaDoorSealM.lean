/- Plain laws: a byte turned is told. No program here. Conditions: none. -/
import Derived.Test.YtfpjdgkooikeoaaDoorSealK
namespace Go.Proofs.YtfpjdgkooikeoaaDoor.Sl
open Go.RowKit Go.Proofs.YtfpjdgkooikeoaaDoor.Mem
set_option linter.unusedVariables false
set_option linter.unusedSimpArgs false
theorem T_zero {d : BitVec 32} (h : T d = 0#32) : d = 0#32 := by
  unfold T at h
  cases hd : d.getLsbD 0 with
  | false =>
    rw [hd] at h
    have h' : d >>> 1 = 0#32 := h
    apply BitVec.eq_of_getLsbD_eq
    intro i hi
    rw [BitVec.getLsbD_zero]
    cases i with
    | zero => exact hd
    | succ j =>
      have := congrArg (fun x : BitVec 32 => x.getLsbD j) h'
      simp only [BitVec.getLsbD_ushiftRight, BitVec.getLsbD_zero] at this
      rwa [Nat.add_comm] at this
  | true =>
    rw [hd] at h
    exfalso
    have h' : (d >>> 1) ^^^ G = 0#32 := h
    have := congrArg (fun x : BitVec 32 => x.getLsbD 31) h'
    simp only [BitVec.getLsbD_xor, BitVec.getLsbD_ushiftRight, BitVec.getLsbD_zero] at this
    rw [BitVec.getLsbD_of_ge d (1 + 31) (by decide)] at this
    revert this
    decide
theorem T_inj {a b : BitVec 32} (h : T a = T b) : a = b := by
  have : T (a ^^^ b) = 0#32 := by rw [T_xor, h, BitVec.xor_self]
  have h0 := T_zero this
  have : a ^^^ b ^^^ b = 0#32 ^^^ b := by rw [h0]
  rwa [BitVec.xor_assoc, BitVec.xor_self, BitVec.xor_zero, BitVec.zero_xor] at this
theorem T4_inj {a b : BitVec 32} (h : T4 a = T4 b) : a = b := T_inj (T_inj (T_inj (T_inj h)))
theorem xor_right_inj {a b c : BitVec 32} (h : a ^^^ c = b ^^^ c) : a = b := by
  have : a ^^^ c ^^^ c = b ^^^ c ^^^ c := by rw [h]
  rwa [BitVec.xor_assoc, BitVec.xor_assoc, BitVec.xor_self, BitVec.xor_zero, BitVec.xor_zero] at this
theorem xor_left_inj {a b c : BitVec 32} (h : c ^^^ a = c ^^^ b) : a = b := xor_right_inj (c := c) (by rw [BitVec.xor_comm a, BitVec.xor_comm b]; exact h)
theorem crcB_left {a b : BitVec 32} {x : UInt8} (h : crcB a x = crcB b x) : a = b := xor_right_inj (T4_inj (T4_inj h))
theorem crcB_right {a : BitVec 32} {x y : UInt8} (h : crcB a x = crcB a y) : x = y := by
  have h1 := xor_left_inj (T4_inj (T4_inj h))
  have h2 := congrArg BitVec.toNat h1
  rw [BitVec.toNat_ofNat, BitVec.toNat_ofNat] at h2
  have hx := x.toNat_lt
  have hy := y.toNat_lt
  exact UInt8.toNat_inj.1 (by omega)
theorem crcR_left : ∀ (l : List UInt8) {a b : BitVec 32}, crcR a l = crcR b l → a = b
  | [], _, _, h => h
  | x :: l, a, b, h => crcB_left (crcR_left l (a := crcB a x) (b := crcB b x) h)
theorem crcR_append (r : BitVec 32) (a b : List UInt8) : crcR r (a ++ b) = crcR (crcR r a) b := List.foldl_append
theorem crcL_set {l : List UInt8} {i : Nat} {y : UInt8} (hi : i < l.length) (hy : y ≠ l[i]) : crcL (l.set i y) ≠ crcL l := by
  intro h
  have h1 : crcR (BitVec.allOnes 32) (l.set i y) = crcR (BitVec.allOnes 32) l := by
    unfold crcL at h
    have := congrArg (fun x : BitVec 32 => ~~~x) h
    simpa using this
  have hl : l = l.take i ++ l[i] :: l.drop (i + 1) := by rw [List.getElem_cons_drop, List.take_append_drop]
  have hs : l.set i y = l.take i ++ y :: l.drop (i + 1) := List.set_eq_take_append_cons_drop .. |>.trans (if_pos hi)
  rw [hs] at h1
  conv at h1 => rhs; rw [hl]
  rw [crcR_append, crcR_append] at h1
  exact hy (crcB_right (crcR_left _ (a := crcB _ y) (b := crcB _ l[i]) h1))
theorem four_inj {a b : BitVec 32} (h : four a = four b) : a = b := by
  unfold four at h
  simp only [List.cons.injEq, and_true] at h
  obtain ⟨h0, h1, h2, h3⟩ := h
  have g : ∀ x y : Nat, x < 256 → y < 256 → UInt8.ofNat x = UInt8.ofNat y → x = y := fun x y hx hy e => by
    have := congrArg UInt8.toNat e
    rwa [ofNat_u8 x hx, ofNat_u8 y hy] at this
  have h0 := g _ _ (Nat.mod_lt _ (by omega)) (Nat.mod_lt _ (by omega)) h0
  have h1 := g _ _ (Nat.mod_lt _ (by omega)) (Nat.mod_lt _ (by omega)) h1
  have h2 := g _ _ (Nat.mod_lt _ (by omega)) (Nat.mod_lt _ (by omega)) h2
  have h3 := g _ _ (Nat.mod_lt _ (by omega)) (Nat.mod_lt _ (by omega)) h3
  have ha := a.isLt
  have hb := b.isLt
  exact BitVec.eq_of_toNat_eq (by omega)
theorem sumB_set {l : List UInt8} {i : Nat} {y : UInt8} (hi : i < l.length) (hy : y ≠ l[i]) : sumB l ≠ sumB (l.set i y) := fun h => crcL_set hi hy (four_inj h).symm
theorem set_ne {l : List UInt8} {i : Nat} {y : UInt8} (hi : i < l.length) (hy : y ≠ l[i]) : l.set i y ≠ l := fun h => hy (by
  have : (l.set i y)[i]'(by rw [List.length_set]; exact hi) = l[i] := by simp only [h]
  rwa [List.getElem_set_self] at this)
/-- a byte turned is told -/
theorem told (p : List UInt8) (hn : p.length ≤ 65536) (i : Nat) (y : UInt8) (hi : i < (sealL p).length) (hy : y ≠ (sealL p)[i]) : openE ((sealL p).set i y) = if i < 2 then 22 else 24 := by
  have hlen := sealL_len p
  by_cases h2 : i < 2
  · rw [if_pos h2]
    unfold openE
    refine if_pos ?_
    unfold badMark
    rw [List.length_set]
    match i, h2 with
    | 0, _ => exact .inl ⟨by omega, hy⟩
    | 1, _ => exact .inr ⟨by omega, hy⟩
  rw [if_neg h2]
  by_cases h5 : i < 5
  · have hs : (sealL p).set i y = (headL p.length).set i y ++ (sumB (headL p.length) ++ (p ++ sumB p)) := by
      rw [seal_shape, List.set_append, if_pos (by rw [headL_len]; exact h5)]
    have hy' : y ≠ (headL p.length)[i]'(by rw [headL_len]; exact h5) := by
      intro q
      apply hy
      simp only [seal_shape]
      rw [List.getElem_append_left]
      exact q
    have hm : ¬ badMark ((sealL p).set i y) := by
      unfold badMark
      rw [List.getD_eq_getElem?_getD, List.getD_eq_getElem?_getD, List.getElem?_set_ne (by omega), List.getElem?_set_ne (by omega)]
      rintro (⟨_, q⟩ | ⟨_, q⟩)
      · exact q rfl
      · exact q rfl
    unfold openE
    rw [if_neg hm, List.length_set, if_neg (by omega), hs, show ((headL p.length).set i y ++ (sumB (headL p.length) ++ (p ++ sumB p))).take 5 = (headL p.length).set i y from List.take_left' (by rw [List.length_set]; rfl),
      show ((headL p.length).set i y ++ (sumB (headL p.length) ++ (p ++ sumB p))).drop 5 = sumB (headL p.length) ++ (p ++ sumB p) from List.drop_left' (by rw [List.length_set]; rfl), sum_take]
    exact if_pos (sumB_set (by rw [headL_len]; exact h5) hy')
  by_cases h9 : i < 9
  · have hs : (sealL p).set i y = headL p.length ++ ((sumB (headL p.length)).set (i - 5) y ++ (p ++ sumB p)) := by
      rw [seal_shape, List.set_append, if_neg (by rw [headL_len]; exact h5), headL_len, List.set_append, if_pos (by rw [sumB_len]; omega)]
    have hy' : y ≠ (sumB (headL p.length))[i - 5]'(by rw [sumB_len]; omega) := by
      intro q
      apply hy
      simp only [seal_shape]
      rw [List.getElem_append_right (by rw [headL_len]; omega), List.getElem_append_left (by rw [headL_len, sumB_len]; omega)]
      exact q
    rw [hs, openE_head _ hn _ _ (by rw [List.length_set]; rfl), if_pos (set_ne _ hy')]
  by_cases hp : i < 9 + p.length
  · have hs : (sealL p).set i y = headL p.length ++ (sumB (headL p.length) ++ (p.set (i - 5 - 4) y ++ sumB p)) := by
      rw [seal_shape, List.set_append, if_neg (by rw [headL_len]; exact h5), headL_len, List.set_append, if_neg (by rw [sumB_len]; omega), sumB_len, List.set_append, if_pos (by omega)]
    have hy' : y ≠ p[i - 5 - 4]'(by omega) := by
      intro q
      apply hy
      simp only [seal_shape]
      rw [List.getElem_append_right (by rw [headL_len]; omega), List.getElem_append_right (by rw [headL_len, sumB_len]; omega), List.getElem_append_left (by rw [headL_len, sumB_len]; omega)]
      exact q
    rw [hs, openE_head _ hn _ _ (sumB_len _), if_neg (by simp), List.length_append, List.length_set, sumB_len, if_neg (by omega), if_neg (by omega), List.take_left' (List.length_set ..), List.drop_left' (List.length_set ..)]
    exact if_pos (sumB_set (by omega) hy')
  · have hs : (sealL p).set i y = headL p.length ++ (sumB (headL p.length) ++ (p ++ (sumB p).set (i - 5 - 4 - p.length) y)) := by
      rw [seal_shape, List.set_append, if_neg (by rw [headL_len]; exact h5), headL_len, List.set_append, if_neg (by rw [sumB_len]; omega), sumB_len, List.set_append, if_neg (by omega)]
    have hy' : y ≠ (sumB p)[i - 5 - 4 - p.length]'(by rw [sumB_len]; omega) := by
      intro q
      apply hy
      simp only [seal_shape]
      rw [List.getElem_append_right (by rw [headL_len]; omega), List.getElem_append_right (by rw [headL_len, sumB_len]; omega), List.getElem_append_right (by rw [headL_len, sumB_len]; omega)]
      exact q
    rw [hs, openE_head _ hn _ _ (sumB_len _), if_neg (by simp), List.length_append, List.length_set, sumB_len, if_neg (by omega), if_neg (by omega), List.take_left' rfl, List.drop_left' rfl]
    exact if_pos (set_ne _ hy')
end Go.Proofs.YtfpjdgkooikeoaaDoor.Sl
