/- The sum of bytes: its walk. Conditions: none. -/
import Derived.Test.YtfpjdgkooikeoaaDoorSealA
namespace Go.Proofs.YtfpjdgkooikeoaaDoor.Sl
open Go.RowKit Go.Proofs.YtfpjdgkooikeoaaDoor.Mem
set_option linter.unusedVariables false
set_option linter.unusedSimpArgs false

/-- the table that lies in the program -/
def Tab (w : World) : Prop := ∀ i, i < 16 → w.cell? ⟨0, i, none⟩ = some (.int .u32 ((tabN.getD i 0 : Nat) : Int))
theorem Tab.fr {S : Nat → Prop} {w w1 : World} (h : Tab w) (hf : Fr S w w1) (h0 : ¬ S 0) : Tab w1 := fun i hi => by
  have hl := World.block_lt_of_cell? w _ (h i hi)
  have hb := hf.block 0 hl h0
  rw [← h i hi]
  simp only [World.cell?, hb]
theorem Tab.no {w w1 : World} (h : Tab w) (hf : Fr No w w1) : Tab w1 := h.fr hf id
theorem ofInt32 (a : BitVec 32) : BitVec.ofInt 32 (a.toNat : Int) = a := by rw [BitVec.ofInt_natCast, BitVec.ofNat_toNat, BitVec.setWidth_eq]
theorem xor32 (a b : BitVec 32) : bits .xor .u32 (a.toNat : Int) (b.toNat : Int) = ((a ^^^ b).toNat : Int) := by
  show IntKind.u32.wrap ((BitVec.ofInt 32 (a.toNat : Int) ^^^ BitVec.ofInt 32 (b.toNat : Int)).toNat : Int) = _
  rw [ofInt32, ofInt32, IntKind.wrap_u32']
  have := (a ^^^ b).isLt
  omega
theorem and15 (a : BitVec 32) : bits .and .u32 (a.toNat : Int) 15 = ((a.toNat % 16 : Nat) : Int) := by
  show IntKind.u32.wrap ((BitVec.ofInt 32 (a.toNat : Int) &&& BitVec.ofInt 32 15).toNat : Int) = _
  rw [ofInt32, IntKind.wrap_u32', BitVec.toNat_and, show (BitVec.ofInt 32 15).toNat = 2 ^ 4 - 1 from rfl, Nat.and_two_pow_sub_one_eq_mod]
  omega
theorem com32 (R : BitVec 32) : bits .xor .u32 IntKind.u32.max (R.toNat : Int) = ((~~~R).toNat : Int) := by
  rw [show IntKind.u32.max = ((BitVec.allOnes 32).toNat : Int) from by rfl, xor32, BitVec.allOnes_xor]
theorem shr4 (a : BitVec 32) : (a.toNat : Int) / (16 : Int) = ((a >>> 4).toNat : Int) := by
  rw [BitVec.toNat_ushiftRight, Nat.shiftRight_eq_div_pow]
  omega
theorem nib_step {w : World} (hT : Tab w) (B : BitVec 32) : ∃ i t : Nat, i < 16 ∧ bits .and .u32 (B.toNat : Int) 15 = (i : Int) ∧ w.cell? ⟨0, i, none⟩ = some (.int .u32 (t : Int)) ∧ bits .xor .u32 ((B.toNat : Int) / 16) (t : Int) = ((T4 B).toNat : Int) := by
  have hi : B.toNat % 16 < 16 := Nat.mod_lt _ (by omega)
  have ht := tab_lt ⟨B.toNat % 16, hi⟩
  dsimp only at ht
  refine ⟨B.toNat % 16, tabN.getD (B.toNat % 16) 0, hi, and15 B, hT _ hi, ?_⟩
  have he : (tabN.getD (B.toNat % 16) 0) = (BitVec.ofNat 32 (tabN.getD (B.toNat % 16) 0)).toNat := by rw [BitVec.toNat_ofNat]; omega
  rw [shr4, he, xor32, ← T4_nib]
theorem sum_step {w : World} (hT : Tab w) (R : BitVec 32) (x : UInt8) : ∃ b i t d j s : Nat, (x.toNat : Int) % 4294967296 = (x.toNat : Int) ∧ bits .xor .u32 (R.toNat : Int) (x.toNat : Int) = (b : Int) ∧ i < 16 ∧ bits .and .u32 (b : Int) 15 = (i : Int) ∧ w.cell? ⟨0, i, none⟩ = some (.int .u32 (t : Int)) ∧
    bits .xor .u32 ((b : Int) / 16) (t : Int) = (d : Int) ∧ j < 16 ∧ bits .and .u32 (d : Int) 15 = (j : Int) ∧ w.cell? ⟨0, j, none⟩ = some (.int .u32 (s : Int)) ∧ bits .xor .u32 ((d : Int) / 16) (s : Int) = ((crcB R x).toNat : Int) := by
  have hx := x.toNat_lt
  have h1 := xor32 R (BitVec.ofNat 32 x.toNat)
  have hb : (BitVec.ofNat 32 x.toNat).toNat = x.toNat := by rw [BitVec.toNat_ofNat]; omega
  rw [hb] at h1
  obtain ⟨i, t, hi, h2, h3, h4⟩ := nib_step hT (R ^^^ BitVec.ofNat 32 x.toNat)
  obtain ⟨j, s, hj, h5, h6, h7⟩ := nib_step hT (T4 (R ^^^ BitVec.ofNat 32 x.toNat))
  exact ⟨_, i, t, _, j, s, by omega, h1, hi, h2, h3, h4, hj, h5, h6, h7⟩
theorem crc_take (R : BitVec 32) (l : List UInt8) (k : Nat) (h : k < l.length) : crcR R (l.take (k + 1)) = crcB (crcR R (l.take k)) l[k] := by
  unfold crcR
  rw [List.take_add_one, List.getElem?_eq_getElem h, List.foldl_append]
  rfl
set_option maxHeartbeats 1000000 in
theorem sSum (A : Option Addr) (n c : Nat) (l : List UInt8) (w : World) (hl : l.length = n) (hn : n ≤ 4611686018427387904) (hA : BR Any w A l) (hT : Tab w) :
    Calls Tryd.prog 13 #[.slice A n c] w fun e w' => e = .returned (.int .u32 ((crcL l).toNat : Int)) ∧ w' = w := by
  have HA := Lib.hid hA
  have HL := Lib.hid hl
  have HT := Lib.hid hT
  clear hA hl hT
  go_enter Tryd.func13, Tryd.ntmps13
  go_wp2
  go_loopw [3, 8] (fun r i wr => wr = w ∧ ∃ (k : Nat) (R : BitVec 32), k ≤ n ∧ i = .int .i64 k ∧ r = .int .u32 (R.toNat : Int) ∧ Hid (R = crcR (BitVec.allOnes 32) (l.take k))) (fun _ i _ => n - (intOf i).toNat)
  case atStart => exact ⟨rfl, 0, BitVec.allOnes 32, Nat.zero_le _, rfl, rfl, rfl⟩
  case round =>
    obtain ⟨rfl, k, R, hk, rfl, rfl, HR⟩ := hrel
    by_cases hlt : k < n
    · have hkl : k < l.length := by rw [HL.out]; exact hlt
      obtain ⟨ad, rfl, hx⟩ := HA.out.at_ k hkl
      obtain ⟨x, hxe⟩ : ∃ x, l[k] = x := ⟨_, rfl⟩
      rw [hxe] at hx
      have hki : (k : Int) < (n : Int) := by omega
      have hw : IntKind.i64.wrap ((k : Int) + 1) = (k : Int) + 1 := IntWalk.i64_in _ (by omega)
      have d0 : decide ((k : Int) < (n : Int)) = true := decide_eq_true hki
      obtain ⟨b, i, t, d, j, s, e0, e1, hi, e2, c2, e3, hj, e4, c4, e5⟩ := sum_step HT.out R x
      have HR1 := Lib.hid (show crcB R x = crcR (BitVec.allOnes 32) (l.take (k + 1)) by rw [crc_take _ _ _ hkl, ← HR.out, hxe])
      have hi' : (i : Int) < 16 := by omega
      have hj' : (j : Int) < 16 := by omega
      generalize x.toNat = X at *
      generalize crcB R x = R1 at *
      clear hxe
      go_wp2
      go_roundw
      case rel => exact ⟨trivial, k + 1, R1, by omega, by go_num, rfl, HR1⟩
      case measure => simp [intOf]; omega
    · obtain rfl : k = n := by omega
      have d0 : decide ((k : Int) < (k : Int)) = false := decide_eq_false (by omega)
      go_wp2
      go_ret
      have h1 : R = crcR (BitVec.allOnes 32) l := by have := HR.out; rwa [List.take_of_length_le (by rw [HL.out]; omega)] at this
      refine ⟨?_, rfl⟩
      show Ending.returned (Value.int .u32 (bits .xor .u32 IntKind.u32.max (R.toNat : Int))) = _
      rw [com32, h1]
      rfl
end Go.Proofs.YtfpjdgkooikeoaaDoor.Sl
