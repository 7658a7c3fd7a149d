/- The sum of bytes (CRC-32C), bit by bit and by halves of a byte. No program here. Conditions: none. -/
import Derived.Test.YtfpjdgkooikeoaaDoorMem
namespace Go.Proofs.YtfpjdgkooikeoaaDoor.Sl
open Go.RowKit Go.Proofs.YtfpjdgkooikeoaaDoor.Mem
set_option linter.unusedVariables false
set_option linter.unusedSimpArgs false

def G : BitVec 32 := 0x82F63B78#32
/-- one bit on -/
def T (r : BitVec 32) : BitVec 32 := if r.getLsbD 0 then (r >>> 1) ^^^ G else r >>> 1
def T4 (r : BitVec 32) : BitVec 32 := T (T (T (T r)))
/-- a byte on -/
def crcB (r : BitVec 32) (x : UInt8) : BitVec 32 := T4 (T4 (r ^^^ BitVec.ofNat 32 x.toNat))
def crcR (r : BitVec 32) (l : List UInt8) : BitVec 32 := l.foldl crcB r
def crcL (l : List UInt8) : BitVec 32 := ~~~ (crcR (BitVec.allOnes 32) l)
def tabN : List Nat := [0x00000000, 0x105ec76f, 0x20bd8ede, 0x30e349b1, 0x417b1dbc, 0x5125dad3, 0x61c69362, 0x7198540d, 0x82f63b78, 0x92a8fc17, 0xa24bb5a6, 0xb21572c9, 0xc38d26c4, 0xd3d3e1ab, 0xe330a81a, 0xf36e6f75]
theorem T_xor (a b : BitVec 32) : T (a ^^^ b) = T a ^^^ T b := by
  unfold T
  rw [BitVec.getLsbD_xor, BitVec.ushiftRight_xor_distrib]
  cases a.getLsbD 0 <;> cases b.getLsbD 0 <;> simp
  · ac_rfl
  · ac_rfl
  · have : (a >>> 1 ^^^ G) ^^^ (b >>> 1 ^^^ G) = (a >>> 1 ^^^ b >>> 1) ^^^ (G ^^^ G) := by ac_rfl
    rw [this, BitVec.xor_self, BitVec.xor_zero]
theorem T4_xor (a b : BitVec 32) : T4 (a ^^^ b) = T4 a ^^^ T4 b := by unfold T4; simp only [T_xor]
theorem T_even {a : BitVec 32} (h : a.getLsbD 0 = false) : T a = a >>> 1 := by unfold T; rw [h]; rfl
theorem T4_high (x : BitVec 32) (h : x.toNat < 268435456) : T4 (x <<< 4) = x := by
  unfold T4
  have e1 : T (x <<< 4) = (x <<< 4) >>> 1 := T_even (by simp)
  rw [e1]
  have e2 : T ((x <<< 4) >>> 1) = (x <<< 4) >>> 1 >>> 1 := T_even (by simp)
  rw [e2]
  have e3 : T ((x <<< 4) >>> 1 >>> 1) = (x <<< 4) >>> 1 >>> 1 >>> 1 := T_even (by simp)
  rw [e3]
  have e4 : T ((x <<< 4) >>> 1 >>> 1 >>> 1) = (x <<< 4) >>> 1 >>> 1 >>> 1 >>> 1 := T_even (by simp)
  rw [e4]
  apply BitVec.eq_of_toNat_eq
  simp only [BitVec.toNat_ushiftRight, BitVec.toNat_shiftLeft, Nat.shiftRight_eq_div_pow, Nat.shiftLeft_eq]
  omega
theorem T4_low : ∀ i : Fin 16, T4 (BitVec.ofNat 32 i.val) = BitVec.ofNat 32 (tabN.getD i.val 0) := by decide +kernel
theorem split4 (r : BitVec 32) : r = ((r >>> 4) <<< 4) ^^^ BitVec.ofNat 32 (r.toNat % 16) := by
  apply BitVec.eq_of_getLsbD_eq
  intro i hi
  rw [BitVec.getLsbD_xor, BitVec.getLsbD_shiftLeft, BitVec.getLsbD_ushiftRight, BitVec.getLsbD_ofNat]
  rw [show (16 : Nat) = 2 ^ 4 from rfl, Nat.testBit_mod_two_pow]
  by_cases h : i < 4
  · simp [h, hi, BitVec.getLsbD]
  · simp [h, hi, show 4 + (i - 4) = i by omega]
theorem T4_nib (r : BitVec 32) : T4 r = (r >>> 4) ^^^ BitVec.ofNat 32 (tabN.getD (r.toNat % 16) 0) := by
  conv => lhs; rw [split4 r]
  rw [T4_xor, T4_high _ (by have := r.isLt; rw [BitVec.toNat_ushiftRight, Nat.shiftRight_eq_div_pow]; omega)]
  have := T4_low ⟨r.toNat % 16, by omega⟩
  dsimp only at this
  rw [this]
theorem tab_lt : ∀ i : Fin 16, tabN.getD i.val 0 < 4294967296 := by decide +kernel
end Go.Proofs.YtfpjdgkooikeoaaDoor.Sl
