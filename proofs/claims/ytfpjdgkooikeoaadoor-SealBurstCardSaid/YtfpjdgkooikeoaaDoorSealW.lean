/- Bits turned: the walk of 'turn'. Conditions: none. -/
import Derived.Test.YtfpjdgkooikeoaaDoorSealV
import Derived.Test.YtfpjdgkooikeoaaDoorSealN
import Derived.Deep.DeepCutAuto
namespace Go.Proofs.YtfpjdgkooikeoaaDoor.Sl
open Go.RowKit Go.Proofs.YtfpjdgkooikeoaaDoor.Mem
set_option linter.unusedVariables false
set_option linter.unusedSimpArgs false
theorem low_bit (M : Nat) (h : M < 4294967296) : bits .and .u32 (M : Int) 1 = ((M % 2 : Nat) : Int) := by
  obtain ⟨lo, _, _, e1, _, _, _⟩ := bit_step (BitVec.ofNat 32 M)
  have hb : (BitVec.ofNat 32 M).toNat = M := by rw [BitVec.toNat_ofNat]; omega
  rw [hb] at e1
  have hA : bits .and .u32 ((BitVec.ofNat 32 M).toNat : Int) 1 = (((BitVec.ofNat 32 M).toNat % 2 : Nat) : Int) := by
    show IntKind.u32.wrap ((BitVec.ofInt 32 ((BitVec.ofNat 32 M).toNat : Int) &&& BitVec.ofInt 32 1).toNat : Int) = _
    rw [ofInt32, IntKind.wrap_u32', BitVec.toNat_and, show (BitVec.ofInt 32 1).toNat = 2 ^ 1 - 1 from rfl, Nat.and_two_pow_sub_one_eq_mod]
    omega
  rw [hb] at hA
  exact hA
set_option maxHeartbeats 4000000 in
set_option maxRecDepth 100000 in
theorem turn (g n c : Nat) (l : List UInt8) (frm tp bit M : Nat) (w : World) (hr : Row w 5 1 (some g) (.slice (some ⟨g, 0, none⟩) n c) n (bv l)) (hl : l.length = n) (hto : tp ≤ n) (hM : M < 4294967296) (hf : frm ≤ 9) (hb : bit ≤ 1000000) (hn : n ≤ 100000) :
    Calls Tryd.prog 21 #[.slice (some ⟨g, 0, none⟩) n c, .int .i64 (frm : Int), .int .i64 (tp : Int), .int .i64 (bit : Int), .int .u32 (M : Int)] w fun e w' =>
      ∃ (l' : List UInt8) (k : Nat), e = .returned (.int .i64 (k : Int)) ∧ Row w' 5 1 (some g) (.slice (some ⟨g, 0, none⟩) n c) n (bv l') ∧ Tinv l l' k (8 * frm + bit) tp 32 M ∧ Fr (fun q => q = g) w w' := by
  have HR0 := Lib.hid hr
  have HL := Lib.hid hl
  have HI0 := Lib.hid (Tinv.init l (8 * frm + bit) tp M)
  have HM0 := Lib.hid (show M = M / 2 ^ 0 by simp)
  clear hr hl
  go_enter Tryd.func21, Tryd.ntmps21
  go_wp2
  go_loopw [4, 11, 12] (fun mk nn i wr => ∃ (k : Nat) (l' : List UInt8) (N Mk : Nat), k ≤ 32 ∧ i = .int .i64 (k : Int) ∧ mk = .int .u32 (Mk : Int) ∧ nn = .int .i64 (N : Int) ∧ N ≤ k ∧ Mk < 4294967296 ∧ Hid (Mk = M / 2 ^ k) ∧ Hid (Row wr 5 1 (some g) (.slice (some ⟨g, 0, none⟩) n c) n (bv l')) ∧ Hid (Tinv l l' N (8 * frm + bit) tp k M) ∧ Hid (Fr (fun q => q = g) w wr)) (fun _ _ i _ => 32 - (intOf i).toNat)
  case atStart => exact ⟨0, l, 0, M, Nat.zero_le _, rfl, rfl, rfl, Nat.le_refl _, hM, HM0, HR0, HI0, Fr.refl _ _⟩
  case round =>
    clear HR0 HI0 HM0
    obtain ⟨k, l', N, Mk, hk, rfl, rfl, rfl, hN, hMk, HMK, HR, HI, HF⟩ := hrel
    by_cases hlt : k < 32
    · have dk : decide ((k : Int) < 32) = true := decide_eq_true (by omega)
      have hw : IntKind.i64.wrap ((k : Int) + 1) = (k : Int) + 1 := IntWalk.i64_in _ (by omega)
      have hwN : IntKind.i64.wrap ((N : Int) + 1) = (N : Int) + 1 := IntWalk.i64_in _ (by omega)
      have hbk : IntKind.i64.wrap ((bit : Int) + (k : Int)) = (bit : Int) + (k : Int) := IntWalk.i64_in _ (by omega)
      obtain ⟨at_, hatn⟩ : ∃ at_ : Nat, frm + (bit + k) / 8 = at_ := ⟨_, rfl⟩
      obtain ⟨q, hqn⟩ : ∃ q : Nat, (bit + k) % 8 = q := ⟨_, rfl⟩
      have hat : (frm : Int) + ((bit : Int) + (k : Int)) / 8 = (at_ : Int) := by omega
      have hq : ((bit : Int) + (k : Int)) % 8 = (q : Int) := by omega
      have HAT := Lib.hid (show (8 * frm + bit + k) / 8 = at_ by omega)
      have HQ := Lib.hid (show (8 * frm + bit + k) % 8 = q by omega)
      have HCO := Lib.hid (show (8 * frm + bit + k < 8 * tp) ↔ at_ < tp by omega)
      have hq8 : q < 8 := by omega
      have hat9 : at_ ≤ 200000 := by omega
      have e1 := low_bit Mk hMk
      have e2 : (Mk : Int) / 2 = ((Mk / 2 : Nat) : Int) := by omega
      have HM2 := Lib.hid (show Mk / 2 = M / 2 ^ (k + 1) by rw [HMK.out, Nat.div_div_eq_div_mul, ← Nat.pow_succ])
      have hM2 : Mk / 2 < 4294967296 := by omega
      have hlo : Mk % 2 = 0 ∨ Mk % 2 = 1 := by omega
      have HT := Lib.hid (show M.testBit k = decide (Mk % 2 = 1) by rw [Nat.testBit_eq_decide_div_mod_eq, HMK.out])
      generalize Mk % 2 = lo at *
      generalize Mk / 2 = M2 at *
      clear hatn hqn HMK
      rcases hlo with rfl | rfl
      · have HI2 := Lib.hid (HI.out.miss (fun h => by have := HT.out; rw [h.1] at this; simp at this))
        clear HT HI HQ HAT HCO
        go_wp2
        exact ⟨⟨k + 1, l', N, M2, by omega, by go_num, rfl, rfl, by omega, hM2, HM2, HR, HI2, HF⟩, by simp [intOf]; omega⟩
      · have ht : M.testBit k = true := by rw [HT.out]; rfl
        by_cases hc : at_ < tp
        · have HI2 := Lib.hid (HI.out.hit (by rw [HL.out]; exact hto) ht (HCO.out.2 hc))
          have d5 : decide ((tp : Int) ≤ (at_ : Int)) = false := decide_eq_false (by omega)
          have d5' : decide (tp ≤ at_) = false := decide_eq_false (by omega)
          have b1 : ((1 : Int) == 0) = false := rfl
          have han : at_ < n := by omega
          have hani : (at_ : Int) < (n : Int) := by omega
          clear HT ht hc HCO
          go_wp2
          go_loopw [15, 16] (fun o j wq => wq = wr ∧ ∃ (jj O : Nat), jj ≤ q ∧ j = .int .i64 (jj : Int) ∧ o = .int .u8 (O : Int) ∧ Hid (O = 2 ^ jj)) (fun _ j _ => q - (intOf j).toNat)
          case atStart => exact ⟨rfl, 0, 1, Nat.zero_le _, rfl, rfl, rfl⟩
          case round =>
            obtain ⟨rfl, jj, O, hjj, rfl, rfl, HO⟩ := hrel
            have hwj : IntKind.i64.wrap ((jj : Int) + 1) = (jj : Int) + 1 := IntWalk.i64_in _ (by omega)
            by_cases hj : jj < q
            · have hOb : O ≤ 64 := by
                rw [HO.out]
                have : 2 ^ jj ≤ 2 ^ 6 := Nat.pow_le_pow_right (by omega) (by omega)
                omega
              have dj : decide ((jj : Int) < (q : Int)) = true := decide_eq_true (by omega)
              have HO2 := Lib.hid (show O * 2 = 2 ^ (jj + 1) by rw [HO.out, Nat.pow_succ])
              have hO2 : (O : Int) * 2 % 256 = ((O * 2 : Nat) : Int) := by omega
              have hO3 : (O : Int) * 2 = ((O * 2 : Nat) : Int) := by omega
              generalize O * 2 = O2 at *
              clear HO
              go_wp2
              go_roundw
              case rel => exact ⟨trivial, jj + 1, O2, by omega, by go_num, rfl, HO2⟩
              case measure => simp [intOf]; omega
            · obtain rfl : jj = q := by omega
              have dj : decide ((jj : Int) < (jj : Int)) = false := decide_eq_false (by omega)
              have hlen := HR.out.len
              rw [bv_len, Nat.mul_one] at hlen
              obtain ⟨g', c', hg', hv', hle, hcell, hfr⟩ := HR.out.at_ (by omega)
              cases hg'
              have hcx := hcell at_ (.int .u8 (l'[at_].toNat : Int)) (by rw [bv, List.getElem?_map, List.getElem?_eq_getElem (by omega)]; rfl)
              have hfx := hfr at_
              have hO := HO.out
              have hOb : O < 256 := by
                rw [hO]
                have : 2 ^ jj ≤ 2 ^ 7 := Nat.pow_le_pow_right (by omega) (by omega)
                omega
              have hx := xor_u8 l'[at_] (O : Int) (by omega) (by omega)
              rw [Int.toNat_natCast] at hx
              have HR2 := Lib.hid (show Row (wr.setCell ⟨g, at_, none⟩ (.int .u8 ((l'[at_] ^^^ UInt8.ofNat O).toNat : Int))) 5 1 (some g) (.slice (some ⟨g, 0, none⟩) n c) n (bv (flipB l' (8 * frm + bit + k))) by
                have := HR.out.set rfl at_ (.int .u8 ((l'[at_] ^^^ UInt8.ofNat O).toNat : Int)) (by rw [bv_len]; omega)
                rw [bv_set] at this
                unfold flipB
                rw [HAT.out, HQ.out, List.getD_eq_getElem?_getD, List.getElem?_eq_getElem (by omega), Option.getD_some, ← hO]
                exact this)
              have HF2 := Lib.hid (HF.out.set (p := ⟨g, at_, none⟩) (.inl rfl) (.int .u8 ((l'[at_] ^^^ UInt8.ofNat O).toNat : Int)))
              generalize (l'[at_] ^^^ UInt8.ofNat O).toNat = nx at *
              generalize l'[at_].toNat = ox at *
              clear hcell hfr hv' hlen hO HO HR HF HI HAT HQ
              go_wp2
              go_roundw
              case rel => exact ⟨k + 1, flipB l' (8 * frm + bit + k), N + 1, M2, by omega, by go_num, rfl, by go_num, by omega, hM2, HM2, HR2, HI2, HF2⟩
              case measure => simp [intOf]; omega
        · have HI2 := Lib.hid (HI.out.miss (fun h => hc (HCO.out.1 h.2)))
          have d5 : decide ((tp : Int) ≤ (at_ : Int)) = true := decide_eq_true (by omega)
          have d5' : decide (tp ≤ at_) = true := decide_eq_true (by omega)
          clear HT ht hc HI HQ HAT HCO
          go_wp2
          exact ⟨⟨k + 1, l', N, M2, by omega, by go_num, rfl, rfl, by omega, hM2, HM2, HR, HI2, HF⟩, by simp [intOf]; omega⟩
    · obtain rfl : k = 32 := by omega
      have dk : decide (((32 : Nat) : Int) < 32) = false := decide_eq_false (by omega)
      go_wp2
      go_ret
      exact ⟨l', N, rfl, HR.out, HI.out, HF.out⟩
end Go.Proofs.YtfpjdgkooikeoaaDoor.Sl
