/- The document's sum; the document's first examples. Conditions: none. -/
import Derived.Test.YtfpjdgkooikeoaaDoorSealG
namespace Go.Proofs.YtfpjdgkooikeoaaDoor.Sl
open Go.RowKit Go.Proofs.YtfpjdgkooikeoaaDoor.Mem
set_option linter.unusedVariables false
set_option linter.unusedSimpArgs false
def Tk : Nat → BitVec 32 → BitVec 32
  | 0, r => r
  | k + 1, r => Tk k (T r)
theorem bit_step (R : BitVec 32) : ∃ lo h f : Nat, bits .and .u32 (R.toNat : Int) 1 = (lo : Int) ∧ (R.toNat : Int) / 2 = (h : Int) ∧ bits .xor .u32 (h : Int) 2197175160 = (f : Int) ∧ ((lo = 1 ∧ (T R).toNat = f) ∨ (lo = 0 ∧ (T R).toNat = h)) := by
  have hA : bits .and .u32 (R.toNat : Int) 1 = ((R.toNat % 2 : Nat) : Int) := by
    show IntKind.u32.wrap ((BitVec.ofInt 32 (R.toNat : Int) &&& BitVec.ofInt 32 1).toNat : Int) = _
    rw [ofInt32, IntKind.wrap_u32', BitVec.toNat_and, show (BitVec.ofInt 32 1).toNat = 2 ^ 1 - 1 from rfl, Nat.and_two_pow_sub_one_eq_mod]
    omega
  have hs : (R.toNat : Int) / 2 = ((R >>> 1).toNat : Int) := by
    rw [BitVec.toNat_ushiftRight, Nat.shiftRight_eq_div_pow]
    omega
  have hg := xor32 (R >>> 1) G
  rw [show (G.toNat : Int) = 2197175160 from rfl] at hg
  refine ⟨_, _, _, hA, hs, hg, ?_⟩
  have hl : R.getLsbD 0 = decide (R.toNat % 2 = 1) := by rw [BitVec.getLsbD, Nat.testBit_zero]
  unfold T
  rw [hl]
  by_cases h : R.toNat % 2 = 1
  · exact .inl ⟨h, by simp [h]⟩
  · exact .inr ⟨by omega, by simp [h]⟩
set_option maxHeartbeats 1000000 in
theorem rSum (A : Option Addr) (n c : Nat) (l : List UInt8) (w : World) (hl : l.length = n) (hn : n ≤ 4611686018427387904) (hA : BR Any w A l) :
    Calls Tryd.prog 14 #[.slice A n c] w fun e w' => e = .returned (.int .u32 ((crcL l).toNat : Int)) ∧ w' = w := by
  have HA := Lib.hid hA
  have HL := Lib.hid hl
  clear hA hl
  go_enter Tryd.func14, Tryd.ntmps14
  go_wp2
  go_loopw [3, 4] (fun r i wr => wr = w ∧ ∃ (k : Nat) (R : BitVec 32), k ≤ n ∧ i = .int .i64 k ∧ r = .int .u32 (R.toNat : Int) ∧ Hid (R = crcR (BitVec.allOnes 32) (l.take k))) (fun _ i _ => n - (intOf i).toNat)
  case atStart => exact ⟨rfl, 0, BitVec.allOnes 32, Nat.zero_le _, rfl, rfl, rfl⟩
  case round =>
    obtain ⟨rfl, k, R, hk, rfl, rfl, HR⟩ := hrel
    by_cases hlt : k < n
    · have hkl : k < l.length := by rw [HL.out]; exact hlt
      obtain ⟨ad, rfl, hx⟩ := HA.out.at_ k hkl
      obtain ⟨x, hxe⟩ : ∃ x, l[k] = x := ⟨_, rfl⟩
      rw [hxe] at hx
      have hki : (k : Int) < (n : Int) := by omega
      have hw : IntKind.i64.wrap ((k : Int) + 1) = (k : Int) + 1 := IntWalk.i64_in _ (by omega)
      have d0 : decide ((k : Int) < (n : Int)) = true := decide_eq_true hki
      have HR1 := Lib.hid (show crcB R x = crcR (BitVec.allOnes 32) (l.take (k + 1)) by rw [crc_take _ _ _ hkl, ← HR.out, hxe])
      have hb : (BitVec.ofNat 32 x.toNat).toNat = x.toNat := by rw [BitVec.toNat_ofNat]; have := x.toNat_lt; omega
      have h1 := xor32 R (BitVec.ofNat 32 x.toNat)
      rw [hb] at h1
      have h0 : (x.toNat : Int) % 4294967296 = (x.toNat : Int) := by have := x.toNat_lt; omega
      obtain ⟨R0, hR0⟩ : ∃ R0, R ^^^ BitVec.ofNat 32 x.toNat = R0 := ⟨_, rfl⟩
      have HR0 := Lib.hid (show Tk 8 R0 = crcB R x by rw [← hR0]; rfl)
      rw [hR0] at h1
      generalize crcB R x = R1 at *
      generalize x.toNat = X at *
      clear hxe hb hR0
      go_wp2
      go_loopw [3, 5] (fun r i wq => wq = wr ∧ ∃ (j : Nat) (Q : BitVec 32), j ≤ 8 ∧ i = .int .i64 j ∧ r = .int .u32 (Q.toNat : Int) ∧ Hid (Tk (8 - j) Q = R1)) (fun _ i _ => 8 - (intOf i).toNat)
      case atStart => exact ⟨rfl, 0, R0, Nat.zero_le _, rfl, rfl, HR0⟩
      case round =>
        obtain ⟨rfl, j, Q, hj, rfl, rfl, HQ⟩ := hrel
        have hwj : IntKind.i64.wrap ((j : Int) + 1) = (j : Int) + 1 := IntWalk.i64_in _ (by omega)
        by_cases hj8 : j < 8
        · obtain ⟨lo, h, f, e1, e2, e3, e4⟩ := bit_step Q
          have HT1 := Lib.hid (show Tk (8 - (j + 1)) (T Q) = R1 by have := HQ.out; rwa [show 8 - j = (8 - (j + 1)) + 1 by omega] at this)
          have dj : decide ((j : Int) < 8) = true := decide_eq_true (by omega)
          rcases e4 with ⟨rfl, e4⟩ | ⟨rfl, e4⟩
          · rw [← e4] at e3
            clear e4 HQ
            go_wp2
            go_roundw
            case rel => exact ⟨trivial, j + 1, T Q, by omega, by go_num, rfl, HT1⟩
            case measure => simp [intOf]; omega
          · rw [← e4] at e2
            clear e4 e3 HQ
            go_wp2
            go_roundw
            case rel => exact ⟨trivial, j + 1, T Q, by omega, by go_num, rfl, HT1⟩
            case measure => simp [intOf]; omega
        · obtain rfl : j = 8 := by omega
          have HQ1 := Lib.hid (show Q = crcR (BitVec.allOnes 32) (l.take (k + 1)) from (show Q = R1 from HQ.out).trans HR1.out)
          clear HQ
          go_wp2
          go_roundw
          case rel => exact ⟨trivial, k + 1, Q, by omega, by go_num, rfl, HQ1⟩
          case measure => simp [intOf]; omega
    · obtain rfl : k = n := by omega
      have d0 : decide ((k : Int) < (k : Int)) = false := decide_eq_false (by omega)
      go_wp2
      go_ret
      have h1 : R = crcR (BitVec.allOnes 32) l := by have := HR.out; rwa [List.take_of_length_le (by rw [HL.out]; omega)] at this
      refine ⟨?_, rfl⟩
      have hx := xor32 R (BitVec.allOnes 32)
      rw [show ((BitVec.allOnes 32).toNat : Int) = 4294967295 from rfl, BitVec.xor_allOnes] at hx
      show Ending.returned (Value.int .u32 (bits .xor .u32 (R.toNat : Int) 4294967295)) = _
      rw [hx, h1]
      rfl
theorem sNew (w : World) : Calls Tryd.prog 22 #[] w fun e w' => e = .returned (.pointer (some ⟨w.heap.size, 0, none⟩)) ∧ Fr No w w' := by
  go_enter Tryd.func22, Tryd.ntmps22
  go_wp2
  go_ret
  exact ⟨rfl, (Fr.refl _ _).alloc _⟩
end Go.Proofs.YtfpjdgkooikeoaaDoor.Sl
