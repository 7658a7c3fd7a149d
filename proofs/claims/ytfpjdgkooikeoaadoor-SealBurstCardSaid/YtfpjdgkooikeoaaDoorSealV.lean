/- Plain laws: what turning bits does, and that it is told. No program here. Conditions: none. -/
import Derived.Test.YtfpjdgkooikeoaaDoorSealU
namespace Go.Proofs.YtfpjdgkooikeoaaDoor.Sl
open Go.RowKit Go.Proofs.YtfpjdgkooikeoaaDoor.Mem
set_option linter.unusedVariables false
set_option linter.unusedSimpArgs false
theorem bits8_get (x : UInt8) (i : Nat) (h : i < 8) : (bits8 x)[i]? = some (x.toNat.testBit i) := by
  match i, h with
  | 0, _ | 1, _ | 2, _ | 3, _ | 4, _ | 5, _ | 6, _ | 7, _ => rfl
  | i + 8, h => omega
theorem bits_get : ∀ (l : List UInt8) (i : Nat), (bitsOf l)[i]? = l[i / 8]?.map fun x => x.toNat.testBit (i % 8)
  | [], i => by simp [bitsOf]
  | x :: l, i => by
    show (bits8 x ++ bitsOf l)[i]? = _
    by_cases h : i < 8
    · rw [List.getElem?_append_left (by simpa [bits8] using h), bits8_get x i h, Nat.div_eq_of_lt h, Nat.mod_eq_of_lt h]
      rfl
    · rw [List.getElem?_append_right (by simp [bits8]; omega), show (bits8 x).length = 8 from rfl, bits_get l (i - 8)]
      rw [show i / 8 = (i - 8) / 8 + 1 by omega, show i % 8 = (i - 8) % 8 by omega, List.getElem?_cons_succ]
/-- one bit is turned -/
def flipB (l : List UInt8) (j : Nat) : List UInt8 := l.set (j / 8) (l.getD (j / 8) 0 ^^^ UInt8.ofNat (2 ^ (j % 8)))
theorem flip_bits (l : List UInt8) (j : Nat) (hj : j < 8 * l.length) (i : Nat) : (bitsOf (flipB l j))[i]? = (bitsOf l)[i]?.map fun v => v ^^ decide (i = j) := by
  rw [bits_get, bits_get]
  unfold flipB
  have hjl : j / 8 < l.length := by omega
  by_cases h : j / 8 = i / 8
  · rw [List.getElem?_set, if_pos h, if_pos hjl, ← h, List.getElem?_eq_getElem hjl, List.getD_eq_getElem?_getD, List.getElem?_eq_getElem hjl]
    simp only [Option.map_some, Option.getD_some, Option.some.injEq]
    have hp : 2 ^ (j % 8) < 256 := by
      have : 2 ^ (j % 8) ≤ 2 ^ 7 := Nat.pow_le_pow_right (by omega) (by omega)
      omega
    rw [UInt8.toNat_xor, Nat.testBit_xor, ofNat_u8 _ hp, Nat.testBit_two_pow]
    congr 1
    rw [Bool.eq_iff_iff]
    simp only [decide_eq_true_eq]
    omega
  · rw [List.getElem?_set_ne h]
    have : decide (i = j) = false := decide_eq_false (fun q => h (by rw [q]))
    rw [this]
    cases l[i / 8]? with
    | none => rfl
    | some v => simp
def Hit (P to k M i : Nat) : Prop := P ≤ i ∧ i < P + k ∧ i < 8 * to ∧ M.testBit (i - P) = true
instance (P to k M i : Nat) : Decidable (Hit P to k M i) := by unfold Hit; infer_instance
/-- l with k of 32 bits done -/
structure Tinv (l l' : List UInt8) (n P to k M : Nat) : Prop where
  len : l'.length = l.length
  bits : ∀ i : Nat, (bitsOf l')[i]? = (bitsOf l)[i]?.map fun v => v ^^ decide (Hit P to k M i)
  some : n ≠ 0 → ∃ i, Hit P to k M i
  le : n ≤ k
theorem Tinv.init (l : List UInt8) (P to M : Nat) : Tinv l l 0 P to 0 M := ⟨rfl, fun i => by
  have : decide (Hit P to 0 M i) = false := decide_eq_false (fun h => by unfold Hit at h; omega)
  rw [this]
  cases (bitsOf l)[i]? <;> simp, fun h => absurd rfl h, Nat.le_refl _⟩
theorem Tinv.hit {l l' : List UInt8} {n P to k M : Nat} (h : Tinv l l' n P to k M) (hto : to ≤ l.length) (hm : M.testBit k = true) (hp : P + k < 8 * to) : Tinv l (flipB l' (P + k)) (n + 1) P to (k + 1) M := by
  have hl := h.len
  refine ⟨by unfold flipB; rw [List.length_set]; exact h.len, fun i => ?_, fun _ => ⟨P + k, by omega, by omega, hp, by rw [Nat.add_sub_cancel_left]; exact hm⟩, by have := h.le; omega⟩
  rw [flip_bits _ _ (by omega), h.bits, Option.map_map]
  congr 1
  funext v
  show ((v ^^ decide (Hit P to k M i)) ^^ decide (i = P + k)) = (v ^^ decide (Hit P to (k + 1) M i))
  rw [Bool.xor_assoc]
  congr 1
  by_cases hi : i = P + k
  · have a : decide (Hit P to k M i) = false := decide_eq_false (fun q => by unfold Hit at q; omega)
    have b : decide (Hit P to (k + 1) M i) = true := decide_eq_true ⟨by omega, by omega, by omega, by rw [hi, Nat.add_sub_cancel_left]; exact hm⟩
    rw [a, b, decide_eq_true hi]
    rfl
  · have : decide (Hit P to (k + 1) M i) = decide (Hit P to k M i) := by
      rw [Bool.eq_iff_iff, decide_eq_true_eq, decide_eq_true_eq]
      exact ⟨fun q => ⟨q.1, by have := q.2.1; omega, q.2.2.1, q.2.2.2⟩, fun q => ⟨q.1, by have := q.2.1; omega, q.2.2.1, q.2.2.2⟩⟩
    rw [this, decide_eq_false hi, Bool.xor_false]
theorem Tinv.miss {l l' : List UInt8} {n P to k M : Nat} (h : Tinv l l' n P to k M) (hm : ¬ (M.testBit k = true ∧ P + k < 8 * to)) : Tinv l l' n P to (k + 1) M := by
  have hh : ∀ i, Hit P to (k + 1) M i ↔ Hit P to k M i := fun i => by
    unfold Hit
    constructor
    · rintro ⟨a, b, c, d⟩
      refine ⟨a, ?_, c, d⟩
      apply Classical.byContradiction
      intro q
      have : i = P + k := by omega
      subst this
      rw [Nat.add_sub_cancel_left] at d
      exact hm ⟨d, c⟩
    · rintro ⟨a, b, c, d⟩
      exact ⟨a, by omega, c, d⟩
  refine ⟨h.len, fun i => ?_, fun hn => ?_, by have := h.le; omega⟩
  · rw [h.bits i]
    congr 1
    funext v
    congr 1
    rw [Bool.eq_iff_iff]
    simp only [decide_eq_true_eq]
    exact (hh i).symm
  · obtain ⟨i, hi⟩ := h.some hn
    exact ⟨i, (hh i).2 hi⟩
theorem bits_app (a b : List UInt8) : bitsOf (a ++ b) = bitsOf a ++ bitsOf b := by unfold bitsOf; rw [List.flatMap_append]
theorem diff {l l' : List UInt8} {n P to k M i : Nat} (h : Tinv l l' n P to k M) (hto : to ≤ l.length) (hi : Hit P to k M i) : (bitsOf l')[i]? ≠ (bitsOf l)[i]? := by
  have hb := h.bits i
  have hlt : i < (bitsOf l).length := by rw [bitsOf_len]; have := hi.2.2.1; omega
  rw [List.getElem?_eq_getElem hlt, decide_eq_true hi] at hb
  rw [hb, List.getElem?_eq_getElem hlt]
  simp
theorem nodiff {l l' : List UInt8} {n P to k M i : Nat} (h : Tinv l l' n P to k M) (hi : ¬ Hit P to k M i) : (bitsOf l')[i]? = (bitsOf l)[i]? := by
  have hb := h.bits i
  rw [decide_eq_false hi] at hb
  rw [hb]
  cases (bitsOf l)[i]? <;> simp
/-- bits turned within 32 in the head, and within 32 behind it, are told -/
theorem burst_told (p l1 l2 : List UInt8) (hn : p.length ≤ 65536) (n1 n2 bh bb M1 M2 : Nat) (h1 : Tinv (sealL p) l1 n1 bh 9 32 M1) (h2 : Tinv l1 l2 n2 (72 + bb) (p.length + 13) 32 M2) (hne : ¬ (n1 = 0 ∧ n2 = 0)) : openE l2 ≠ 0 := by
  intro he
  obtain ⟨hq6, hq⟩ := seal_open l2 he
  generalize openP l2 = q at hq6 hq
  have hlen := sealL_len p
  have hl2 : l2.length = p.length + 13 := by rw [h2.len, h1.len, hlen]
  have hqp : q.length = p.length := by rw [← hq, sealL_len] at hl2; omega
  have e1 : sealL p = (headL p.length ++ sumB (headL p.length)) ++ (p ++ sumB p) := by unfold sealL; simp only [List.append_assoc]
  have e2 : l2 = (headL p.length ++ sumB (headL p.length)) ++ (q ++ sumB q) := by rw [← hq]; unfold sealL; rw [hqp]; simp only [List.append_assoc]
  have hh9 : (headL p.length ++ sumB (headL p.length)).length = 9 := rfl
  generalize headL p.length ++ sumB (headL p.length) = H at e1 e2 hh9
  have b1 : bitsOf (sealL p) = bitsOf H ++ bitsOf (p ++ sumB p) := by rw [e1, bits_app]
  have b2 : bitsOf l2 = bitsOf H ++ bitsOf (q ++ sumB q) := by rw [e2, bits_app]
  have hHl : (bitsOf H).length = 72 := by rw [bitsOf_len, hh9]
  by_cases hz : n1 = 0
  · have hn2 : n2 ≠ 0 := fun q => hne ⟨hz, q⟩
    obtain ⟨i, hi⟩ := h2.some hn2
    have hd := diff h2 (by rw [h1.len, hlen]; exact Nat.le_refl _) hi
    have hnd : ∀ j, 72 ≤ j → (bitsOf l1)[j]? = (bitsOf (sealL p))[j]? := fun j hj => nodiff h1 (fun q => by have := q.2.2.1; omega)
    have heq : bitsOf (q ++ sumB q) = bitsOf (p ++ sumB p) := two_sums _ _ (whole_sum q) (whole_sum p) (by rw [List.length_append, List.length_append, hqp]; rfl) bb (fun j hj => by
      have hx : (bitsOf l2)[72 + j]? ≠ (bitsOf l1)[72 + j]? := by
        rw [hnd _ (by omega), b1, b2, List.getElem?_append_right (by omega), List.getElem?_append_right (by omega), hHl, Nat.add_sub_cancel_left]
        exact hj
      have : Hit (72 + bb) (p.length + 13) 32 M2 (72 + j) := Classical.byContradiction fun q => hx (nodiff h2 q)
      have h3 := this.1
      have h4 := this.2.1
      omega)
    apply hd
    have h72 := hi.1
    rw [hnd i (by omega), b1, b2, heq]
  · obtain ⟨i, hi⟩ := h1.some hz
    have hd := diff h1 (by omega) hi
    have hi72 : i < 72 := by have := hi.2.2.1; omega
    apply hd
    rw [← nodiff h2 (fun q => by have := q.1; omega), b1, b2, List.getElem?_append_left (by omega), List.getElem?_append_left (by omega)]
end Go.Proofs.YtfpjdgkooikeoaaDoor.Sl
