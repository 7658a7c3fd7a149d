/- Plain laws: bits turned within 32 are told by the sum. No program here. Conditions: none. -/
import Derived.Test.YtfpjdgkooikeoaaDoorSealM
namespace Go.Proofs.YtfpjdgkooikeoaaDoor.Sl
open Go.RowKit Go.Proofs.YtfpjdgkooikeoaaDoor.Mem
set_option linter.unusedVariables false
set_option linter.unusedSimpArgs false
/-! ### bit by bit -/
def bw (b : Bool) : BitVec 32 := if b then 1#32 else 0#32
def feed (r : BitVec 32) (bs : List Bool) : BitVec 32 := bs.foldl (fun r b => T (r ^^^ bw b)) r
def Tn : Nat → BitVec 32 → BitVec 32
  | 0, r => r
  | k + 1, r => Tn k (T r)
theorem T_z : T 0#32 = 0#32 := by decide +kernel
theorem Tn_ne : ∀ (k : Nat) {r : BitVec 32}, r ≠ 0#32 → Tn k r ≠ 0#32
  | 0, _, h => h
  | k + 1, r, h => Tn_ne k (fun q => h (T_zero q))
theorem bw_xor (a b : Bool) : bw (a ^^ b) = bw a ^^^ bw b := by cases a <;> cases b <;> decide
theorem feed_xor : ∀ (a b : List Bool) (r s : BitVec 32), a.length = b.length → feed (r ^^^ s) (List.zipWith xor a b) = feed r a ^^^ feed s b
  | [], [], _, _, _ => rfl
  | x :: a, y :: b, r, s, h => by
    show feed (T (r ^^^ s ^^^ bw (x ^^ y))) (List.zipWith xor a b) = feed (T (r ^^^ bw x)) a ^^^ feed (T (s ^^^ bw y)) b
    rw [bw_xor, ← feed_xor a b _ _ (by simpa using h), ← T_xor]
    congr 2
    ac_rfl
  | [], _ :: _, _, _, h => by simp at h
  | _ :: _, [], _, _, h => by simp at h
theorem feed_false : ∀ (bs : List Bool) (r : BitVec 32), (∀ b ∈ bs, b = false) → feed r bs = Tn bs.length r
  | [], _, _ => rfl
  | x :: bs, r, h => by
    have hx : x = false := h x (List.mem_cons_self ..)
    subst hx
    show feed (T (r ^^^ bw false)) bs = Tn bs.length (T r)
    rw [show bw false = 0#32 from rfl, BitVec.xor_zero]
    exact feed_false bs _ (fun b hb => h b (List.mem_cons_of_mem _ hb))
theorem Tn_zero : ∀ k, Tn k 0#32 = 0#32
  | 0 => rfl
  | k + 1 => by show Tn k (T 0#32) = _; rw [T_z]; exact Tn_zero k
/-- the word of some bits, the first one the lowest -/
def word : List Bool → Nat
  | [] => 0
  | b :: bs => (if b then 1 else 0) + 2 * word bs
theorem word_lt : ∀ bs : List Bool, word bs < 2 ^ bs.length
  | [] => by decide
  | b :: bs => by
    have := word_lt bs
    unfold word
    rw [List.length_cons, Nat.pow_succ]
    split <;> omega
theorem T_double (y : Nat) (hy : y < 2 ^ 31) : T (BitVec.ofNat 32 (2 * y)) = BitVec.ofNat 32 y := by
  have h0 : (BitVec.ofNat 32 (2 * y)).getLsbD 0 = false := by
    rw [BitVec.getLsbD_ofNat]
    simp
  rw [T_even h0]
  apply BitVec.eq_of_toNat_eq
  rw [BitVec.toNat_ushiftRight, BitVec.toNat_ofNat, BitVec.toNat_ofNat, Nat.shiftRight_eq_div_pow]
  omega
theorem word_cons (b : Bool) (bs : List Bool) (h : bs.length ≤ 31) : BitVec.ofNat 32 (word (b :: bs)) = bw b ^^^ BitVec.ofNat 32 (2 * word bs) := by
  have hw := word_lt bs
  have h2 : 2 ^ bs.length ≤ 2 ^ 31 := Nat.pow_le_pow_right (by omega) h
  cases b
  · show BitVec.ofNat 32 (0 + 2 * word bs) = 0#32 ^^^ _
    rw [Nat.zero_add, BitVec.zero_xor]
  · show BitVec.ofNat 32 (1 + 2 * word bs) = 1#32 ^^^ _
    apply BitVec.eq_of_toNat_eq
    have e1 : (BitVec.ofNat 32 (1 + 2 * word bs)).toNat = 1 + 2 * word bs := by rw [BitVec.toNat_ofNat]; omega
    have e2 : (BitVec.ofNat 32 (2 * word bs)).toNat = 2 * word bs := by rw [BitVec.toNat_ofNat]; omega
    rw [BitVec.toNat_xor, e1, e2]
    show 1 + 2 * word bs = 1 ^^^ (2 * word bs)
    apply Nat.eq_of_testBit_eq
    intro i
    rw [Nat.testBit_xor]
    cases i with
    | zero => simp [Nat.testBit_zero, Nat.add_mod]
    | succ i =>
      rw [Nat.testBit_succ, Nat.testBit_succ, Nat.testBit_succ]
      rw [show (1 + 2 * word bs) / 2 = word bs by omega, show 2 * word bs / 2 = word bs by omega, show 1 / 2 = 0 from rfl, Nat.zero_testBit, Bool.false_xor]
theorem feed_word : ∀ (bs : List Bool) (r : BitVec 32), bs.length ≤ 32 → feed r bs = Tn bs.length (r ^^^ BitVec.ofNat 32 (word bs))
  | [], r, _ => by show r = r ^^^ 0#32; rw [BitVec.xor_zero]
  | b :: bs, r, h => by
    have hl : bs.length ≤ 31 := by rw [List.length_cons] at h; omega
    have hw := word_lt bs
    have h2 : 2 ^ bs.length ≤ 2 ^ 31 := Nat.pow_le_pow_right (by omega) hl
    show feed (T (r ^^^ bw b)) bs = Tn bs.length (T (r ^^^ BitVec.ofNat 32 (word (b :: bs))))
    rw [feed_word bs _ (by omega), word_cons b bs hl, ← BitVec.xor_assoc, T_xor (r ^^^ bw b), T_double _ (by omega)]
theorem feed_append (r : BitVec 32) (a b : List Bool) : feed r (a ++ b) = feed (feed r a) b := List.foldl_append
theorem word_ne : ∀ bs : List Bool, true ∈ bs → word bs ≠ 0
  | [], h => by simp at h
  | b :: bs, h => by
    unfold word
    cases b with
    | true => simp
    | false =>
      have := word_ne bs (by simpa using h)
      simp
      omega
/-- bits that lie within 32 are never lost -/
theorem burst (bs : List Bool) (s : Nat) (h : ∀ j : Nat, bs[j]? = some true → s ≤ j ∧ j < s + 32) (he : true ∈ bs) : feed 0#32 bs ≠ 0#32 := by
  have hsplit : bs = bs.take s ++ ((bs.drop s).take 32 ++ (bs.drop s).drop 32) := by rw [List.take_append_drop, List.take_append_drop]
  have f1 : ∀ b ∈ bs.take s, b = false := fun b hb => by
    obtain ⟨j, hj, rfl⟩ := List.mem_iff_getElem.1 hb
    rw [List.length_take] at hj
    cases hq : (bs.take s)[j]'(by rw [List.length_take]; exact hj) with
    | false => rfl
    | true =>
      rw [List.getElem_take] at hq
      have := h j (by rw [List.getElem?_eq_getElem (by omega), hq])
      omega
  have f3 : ∀ b ∈ (bs.drop s).drop 32, b = false := fun b hb => by
    rw [List.drop_drop] at hb
    obtain ⟨j, hj, rfl⟩ := List.mem_iff_getElem.1 hb
    rw [List.length_drop] at hj
    cases hq : (bs.drop (s + 32))[j]'(by rw [List.length_drop]; exact hj) with
    | false => rfl
    | true =>
      rw [List.getElem_drop] at hq
      have := h (s + 32 + j) (by rw [List.getElem?_eq_getElem (by omega), hq])
      omega
  have ht : true ∈ (bs.drop s).take 32 := by
    rw [hsplit] at he
    rcases List.mem_append.1 he with he | he
    · have := f1 _ he; cases this
    · rcases List.mem_append.1 he with he | he
      · exact he
      · have := f3 _ he; cases this
  rw [hsplit, feed_append, feed_append, feed_false _ _ f1, Tn_zero, feed_false _ _ f3]
  apply Tn_ne
  have hl : ((bs.drop s).take 32).length ≤ 32 := List.length_take_le ..
  rw [feed_word _ _ hl, BitVec.zero_xor]
  apply Tn_ne
  intro q
  have hw := word_lt ((bs.drop s).take 32)
  have h2 : 2 ^ ((bs.drop s).take 32).length ≤ 2 ^ 32 := Nat.pow_le_pow_right (by omega) hl
  have := congrArg BitVec.toNat q
  rw [BitVec.toNat_ofNat, Nat.mod_eq_of_lt (by omega)] at this
  exact word_ne _ ht this
/-! ### bytes as bits -/
def bits8 (x : UInt8) : List Bool := [x.toNat.testBit 0, x.toNat.testBit 1, x.toNat.testBit 2, x.toNat.testBit 3, x.toNat.testBit 4, x.toNat.testBit 5, x.toNat.testBit 6, x.toNat.testBit 7]
def bitsOf (l : List UInt8) : List Bool := l.flatMap bits8
theorem word8 : ∀ x : Fin 256, word [x.val.testBit 0, x.val.testBit 1, x.val.testBit 2, x.val.testBit 3, x.val.testBit 4, x.val.testBit 5, x.val.testBit 6, x.val.testBit 7] = x.val := by decide +kernel
theorem crcB_feed (r : BitVec 32) (x : UInt8) : crcB r x = feed r (bits8 x) := by
  have h := word8 ⟨x.toNat, x.toNat_lt⟩
  dsimp only at h
  rw [feed_word _ _ (by simp [bits8]), show word (bits8 x) = x.toNat from h]
  rfl
theorem crcR_feed : ∀ (l : List UInt8) (r : BitVec 32), crcR r l = feed r (bitsOf l)
  | [], _ => rfl
  | x :: l, r => by
    show crcR (crcB r x) l = feed r (bits8 x ++ bitsOf l)
    rw [feed_append, ← crcB_feed, crcR_feed l]
theorem bitsOf_len (l : List UInt8) : (bitsOf l).length = 8 * l.length := by
  unfold bitsOf
  induction l with
  | nil => rfl
  | cons x l ih => rw [List.flatMap_cons, List.length_append, ih, List.length_cons]; simp [bits8]; omega
/-! ### what a list with its sum behind it comes to -/
def KK : BitVec 32 := crcB (crcB (crcB (crcB 0#32 0xFF) 0xFF) 0xFF) 0xFF
theorem low_out (D : BitVec 32) : crcB D (UInt8.ofNat (D.toNat % 256)) = D >>> 8 := by
  unfold crcB
  have hx : D ^^^ BitVec.ofNat 32 (UInt8.ofNat (D.toNat % 256)).toNat = ((D >>> 8) <<< 4) <<< 4 := by
    rw [ofNat_u8 _ (Nat.mod_lt _ (by omega))]
    apply BitVec.eq_of_getLsbD_eq
    intro i hi
    rw [BitVec.getLsbD_xor, BitVec.getLsbD_ofNat, show (256 : Nat) = 2 ^ 8 from rfl, Nat.testBit_mod_two_pow, BitVec.getLsbD_shiftLeft, BitVec.getLsbD_shiftLeft, BitVec.getLsbD_ushiftRight]
    by_cases h : i < 8
    · by_cases h4 : i < 4
      · simp [h, h4, hi, BitVec.getLsbD]
      · simp [h, h4, hi, BitVec.getLsbD, show i - 4 < 4 by omega]
    · have h4 : ¬ i < 4 := by omega
      have h44 : ¬ i - 4 < 4 := by omega
      simp [h, h4, hi, h44, show 8 + (i - 4 - 4) = i by omega, show i - 4 < 32 by omega]
  have hs : (D >>> 8).toNat < 16777216 := by
    have := D.isLt
    rw [BitVec.toNat_ushiftRight, Nat.shiftRight_eq_div_pow]
    omega
  rw [hx, T4_high _ (by rw [BitVec.toNat_shiftLeft, Nat.shiftLeft_eq]; omega), T4_high _ (by omega)]
theorem own_sum (D : BitVec 32) : crcR D (four D) = 0#32 := by
  have h := D.isLt
  have e1 : (D >>> 8).toNat = D.toNat / 256 := by rw [BitVec.toNat_ushiftRight, Nat.shiftRight_eq_div_pow]
  have e2 : (D >>> 8 >>> 8).toNat = D.toNat / 65536 := by rw [BitVec.toNat_ushiftRight, e1, Nat.shiftRight_eq_div_pow]; omega
  have e3 : (D >>> 8 >>> 8 >>> 8).toNat = D.toNat / 16777216 := by rw [BitVec.toNat_ushiftRight, e2, Nat.shiftRight_eq_div_pow]; omega
  show crcB (crcB (crcB (crcB D _) _) _) _ = _
  rw [low_out D, ← e1, low_out (D >>> 8), ← e2, low_out (D >>> 8 >>> 8), ← e3, low_out (D >>> 8 >>> 8 >>> 8)]
  apply BitVec.eq_of_toNat_eq
  rw [BitVec.toNat_ushiftRight, e3, Nat.shiftRight_eq_div_pow]
  show D.toNat / 16777216 / 256 = 0
  omega
theorem crcB_xor (r s : BitVec 32) (x y : UInt8) : crcB (r ^^^ s) (x ^^^ y) = crcB r x ^^^ crcB s y := by
  unfold crcB
  rw [← T4_xor, ← T4_xor]
  congr 2
  have : BitVec.ofNat 32 (x ^^^ y).toNat = BitVec.ofNat 32 x.toNat ^^^ BitVec.ofNat 32 y.toNat := by
    apply BitVec.eq_of_toNat_eq
    have hx := x.toNat_lt
    have hy := y.toNat_lt
    have hz : x.toNat ^^^ y.toNat < 2 ^ 8 := Nat.xor_lt_two_pow hx hy
    rw [BitVec.toNat_xor, BitVec.toNat_ofNat, BitVec.toNat_ofNat, BitVec.toNat_ofNat, UInt8.toNat_xor, Nat.mod_eq_of_lt (by omega), Nat.mod_eq_of_lt (by omega), Nat.mod_eq_of_lt (by omega)]
  rw [this]
  ac_rfl
theorem byte_not (n : Nat) (h : n < 256) : UInt8.ofNat (255 - n) = UInt8.ofNat n ^^^ 0xFF := by
  have : ∀ x : Fin 256, UInt8.ofNat (255 - x.val) = UInt8.ofNat x.val ^^^ 0xFF := by decide +kernel
  exact this ⟨n, h⟩
theorem crc4_not (R : BitVec 32) (x0 x1 x2 x3 : UInt8) : crcB (crcB (crcB (crcB R (x0 ^^^ 0xFF)) (x1 ^^^ 0xFF)) (x2 ^^^ 0xFF)) (x3 ^^^ 0xFF) = crcB (crcB (crcB (crcB R x0) x1) x2) x3 ^^^ KK := by
  have h := crcB_xor R 0#32 x0 0xFF
  rw [BitVec.xor_zero] at h
  rw [h, crcB_xor, crcB_xor, crcB_xor, KK]
theorem whole_sum (l : List UInt8) : crcR (BitVec.allOnes 32) (l ++ sumB l) = KK := by
  rw [crcR_append]
  unfold sumB crcL
  generalize crcR (BitVec.allOnes 32) l = R
  have h := R.isLt
  have e : (~~~R).toNat = 4294967295 - R.toNat := by rw [BitVec.toNat_not]
  have h0 : UInt8.ofNat ((~~~R).toNat % 256) = UInt8.ofNat (R.toNat % 256) ^^^ 0xFF := by rw [← byte_not _ (Nat.mod_lt _ (by omega)), e]; congr 1; omega
  have h1 : UInt8.ofNat ((~~~R).toNat / 256 % 256) = UInt8.ofNat (R.toNat / 256 % 256) ^^^ 0xFF := by rw [← byte_not _ (Nat.mod_lt _ (by omega)), e]; congr 1; omega
  have h2 : UInt8.ofNat ((~~~R).toNat / 65536 % 256) = UInt8.ofNat (R.toNat / 65536 % 256) ^^^ 0xFF := by rw [← byte_not _ (Nat.mod_lt _ (by omega)), e]; congr 1; omega
  have h3 : UInt8.ofNat ((~~~R).toNat / 16777216 % 256) = UInt8.ofNat (R.toNat / 16777216 % 256) ^^^ 0xFF := by rw [← byte_not _ (Nat.mod_lt _ (by omega)), e]; congr 1; omega
  have ho := own_sum R
  unfold four
  rw [h0, h1, h2, h3]
  show crcB (crcB (crcB (crcB R _) _) _) _ = _
  rw [crc4_not]
  have ho' : crcB (crcB (crcB (crcB R (UInt8.ofNat (R.toNat % 256))) (UInt8.ofNat (R.toNat / 256 % 256))) (UInt8.ofNat (R.toNat / 65536 % 256))) (UInt8.ofNat (R.toNat / 16777216 % 256)) = 0#32 := ho
  rw [ho', BitVec.zero_xor]
/-- two lists with their sums: bits that differ lie never within 32 -/
theorem two_sums (a b : List UInt8) (ha : crcR (BitVec.allOnes 32) a = KK) (hb : crcR (BitVec.allOnes 32) b = KK) (hl : a.length = b.length) (s : Nat) (h : ∀ j : Nat, (bitsOf a)[j]? ≠ (bitsOf b)[j]? → s ≤ j ∧ j < s + 32) : bitsOf a = bitsOf b := by
  have hlen : (bitsOf a).length = (bitsOf b).length := by rw [bitsOf_len, bitsOf_len, hl]
  apply Classical.byContradiction
  intro hne
  have h0 : feed 0#32 (List.zipWith xor (bitsOf a) (bitsOf b)) = 0#32 := by
    have := feed_xor (bitsOf a) (bitsOf b) (BitVec.allOnes 32) (BitVec.allOnes 32) hlen
    rw [BitVec.xor_self, ← crcR_feed, ← crcR_feed, ha, hb, BitVec.xor_self] at this
    exact this
  refine burst _ s (fun j hj => h j (fun q => ?_)) ?_ h0
  · rw [List.getElem?_zipWith, q] at hj
    cases hq : (bitsOf b)[j]? with
    | none => rw [hq] at hj; simp at hj
    | some v => rw [hq] at hj; simp at hj
  · apply Classical.byContradiction
    intro ht
    apply hne
    apply List.ext_getElem hlen
    intro i h1 h2
    have : (List.zipWith xor (bitsOf a) (bitsOf b))[i]'(by rw [List.length_zipWith]; omega) ∈ List.zipWith xor (bitsOf a) (bitsOf b) := List.getElem_mem _
    rw [List.getElem_zipWith] at this
    cases hx : (bitsOf a)[i] <;> cases hy : (bitsOf b)[i] <;> simp_all
end Go.Proofs.YtfpjdgkooikeoaaDoor.Sl
