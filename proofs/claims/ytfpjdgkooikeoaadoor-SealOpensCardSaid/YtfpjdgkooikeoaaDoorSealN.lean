/- The law SealTold: its walk. Conditions: none. -/
import Derived.Test.YtfpjdgkooikeoaaDoorSealM
import Derived.Test.YtfpjdgkooikeoaaDoorSealJ
namespace Go.Proofs.YtfpjdgkooikeoaaDoor.Sl
open Go.RowKit Go.Proofs.YtfpjdgkooikeoaaDoor.Mem
set_option linter.unusedVariables false
set_option linter.unusedSimpArgs false
theorem xor_u8 (a : UInt8) (y : Int) (h0 : 0 ≤ y) (h1 : y ≤ 255) : bits .xor .u8 (a.toNat : Int) y = ((a ^^^ UInt8.ofNat y.toNat).toNat : Int) := by
  obtain ⟨n, rfl⟩ := Int.eq_ofNat_of_zero_le h0
  have ha := a.toNat_lt
  rw [u8_xor_nat _ _ (by omega) (by omega), Int.toNat_natCast, UInt8.toNat_xor, UInt8.toNat_ofNat']
  congr 2
  omega
theorem xor_ne (a k : UInt8) (hk : k ≠ 0) : a ^^^ k ≠ a := fun h => hk (by
  have : a ^^^ (a ^^^ k) = a ^^^ a := by rw [h]
  rwa [← UInt8.xor_assoc, UInt8.xor_self, UInt8.zero_xor] at this)
theorem bv_set (l : List UInt8) (i : Nat) (x : UInt8) : (bv l).set i (.int .u8 (x.toNat : Int)) = bv (l.set i x) := by unfold bv; rw [List.map_set]
set_option maxHeartbeats 4000000 in
theorem told_walk (A : Option Addr) (n c : Nat) (place y : Int) (p : List UInt8) (w : World) (hl : p.length = n) (hn : n ≤ 140737488351232) (hA : BR Any w A p) (hT : Tab w) :
    Calls Tryd.prog 7 #[.slice A n c, .int .i64 place, .int .i64 y] w fun e w' => e = .returned (.bool true) ∧ Fr No w w' := by
  have HA := Lib.hid hA
  have HT := Lib.hid hT
  have HL := Lib.hid hl
  have HSH := Lib.hid (shown w hT)
  clear hA hT hl
  by_cases hbig : 65536 < n
  · have HLO := Lib.hid (fun W => sSeal_long A n c W hbig (by omega))
    have d0 : decide ((65536 : Int) < (n : Int)) = true := decide_eq_true (by omega)
    have d0' : decide (65536 < n) = true := decide_eq_true hbig
    go_enter Tryd.func7, Tryd.ntmps7
    go_wp2_with fail
    refine HSH.out.mono ?_
    rintro e w1 ⟨rfl, hF1⟩
    go_wp2_with fail
    refine (HLO.out w1).mono ?_
    rintro e w2 ⟨rfl, rfl⟩
    go_wp2
    go_ret
    exact ⟨rfl, hF1⟩
  have d0 : decide ((65536 : Int) < (n : Int)) = false := decide_eq_false (by omega)
  have d0' : decide (65536 < n) = false := decide_eq_false hbig
  have hw13 : IntKind.i64.wrap ((n : Int) + 13) = (n : Int) + 13 := IntWalk.i64_in _ (by omega)
  have HSE := Lib.hid (fun W hA hT => sSeal A n c p W HL.out (by omega) hA hT)
  by_cases hbad : place < 0 ∨ (n : Int) + 13 ≤ place ∨ y < 1 ∨ 255 < y
  · have hb : (decide (place < 0) = true) ∨ (decide (place < 0) = false ∧ decide ((n : Int) + 13 ≤ place) = true) ∨ (decide (place < 0) = false ∧ decide ((n : Int) + 13 ≤ place) = false ∧ decide (y < 1) = true) ∨ (decide (place < 0) = false ∧ decide ((n : Int) + 13 ≤ place) = false ∧ decide (y < 1) = false ∧ decide (255 < y) = true) := by
      simp only [decide_eq_true_eq, decide_eq_false_iff_not]
      omega
    clear hbad
    rcases hb with d1 | ⟨d1, d2⟩ | ⟨d1, d2, d3⟩ | ⟨d1, d2, d3, d4⟩
    all_goals
      go_enter Tryd.func7, Tryd.ntmps7
      go_wp2_with fail
      refine HSH.out.mono ?_
      rintro e w1 ⟨rfl, hF1⟩
      have HF1 := Lib.hid hF1
      clear hF1
      go_wp2_with fail
      refine (HSE.out w1 (HA.out.fr HF1.out (fun _ _ _ q => q)) (HT.out.no HF1.out)).mono ?_
      rintro e w2 ⟨g, rfl, hg, hB2, hF2⟩
      have HF2 := Lib.hid (HF1.out.then_ hF2)
      clear hg hB2 hF2 HF1
      go_wp2
      go_ret
      exact ⟨rfl, HF2.out⟩
  · obtain ⟨i, rfl⟩ := Int.eq_ofNat_of_zero_le (show 0 ≤ place by omega)
    have d1 : decide ((i : Int) < 0) = false := decide_eq_false (by omega)
    have d2 : decide ((n : Int) + 13 ≤ (i : Int)) = false := decide_eq_false (by omega)
    have d2' : decide (n + 13 ≤ i) = false := decide_eq_false (by omega)
    have d3 : decide (y < 1) = false := decide_eq_false (by omega)
    have d4 : decide (255 < y) = false := decide_eq_false (by omega)
    have hil : i < (sealL p).length := by rw [sealL_len, HL.out]; omega
    obtain ⟨old, hold⟩ : ∃ old, (sealL p)[i] = old := ⟨_, rfl⟩
    have hy : y % 256 = y := by omega
    have hx := xor_u8 old y (by omega) (by omega)
    have hne : old ^^^ UInt8.ofNat y.toNat ≠ (sealL p)[i] := by
      rw [hold]
      refine xor_ne _ _ (fun q => ?_)
      have := congrArg UInt8.toNat q
      rw [UInt8.toNat_ofNat'] at this
      have h0 : (0 : UInt8).toNat = 0 := rfl
      omega
    have HTO := Lib.hid (told p (by rw [HL.out]; omega) i _ hil hne)
    have HOL := Lib.hid (show (bv (sealL p))[i]? = some (.int .u8 (old.toNat : Int)) by rw [bv, List.getElem?_map, List.getElem?_eq_getElem hil, hold]; rfl)
    have hi1 : (i : Int) < (n : Int) + 13 := by omega
    have hi2 : i < n + 13 := by omega
    generalize old ^^^ UInt8.ofNat y.toNat = new at *
    clear hbad hne hold hil
    go_enter Tryd.func7, Tryd.ntmps7
    go_wp2_with fail
    refine HSH.out.mono ?_
    rintro e w1 ⟨rfl, hF1⟩
    have HF1 := Lib.hid hF1
    clear hF1
    go_wp2_with fail
    refine (HSE.out w1 (HA.out.fr HF1.out (fun _ _ _ q => q)) (HT.out.no HF1.out)).mono ?_
    rintro e w2 ⟨g, rfl, hg, hB2, hF2⟩
    have HF2 := Lib.hid (HF1.out.then_ hF2)
    have HCO := Lib.hid (copiedL (some ⟨g, 0, none⟩) (n + 13) (n + 13) (sealL p) w2 (by rw [sealL_len, HL.out]) (by omega) (BR.of_block' hB2))
    clear hg hB2 hF2 HF1 HSE
    go_wp2_with fail
    refine HCO.out.mono ?_
    rintro e w3 ⟨A3, c3, rb3, rfl, hr3, hF3, hn3⟩
    obtain ⟨g3, c3', rfl, hv3, hle3, hcell, hfr⟩ := hr3.at_ (by omega)
    injection hv3 with e1 _ e3
    subst e1 e3
    have hc := hcell i _ HOL.out
    have hf3 := hfr i
    have HR4 := Lib.hid (show Row (w3.setCell ⟨g3, i, none⟩ (.int .u8 (new.toNat : Int))) 5 1 (some g3) (.slice (some ⟨g3, 0, none⟩) (n + 13) c3) (n + 13) (bv ((sealL p).set i new)) by
      rw [← bv_set]
      exact hr3.set rfl i _ (by have := hr3.len; omega))
    have HF4 := Lib.hid (HF2.out.then_ (hF3.set (p := ⟨g3, i, none⟩) (.inr (hn3 g3 rfl)) (.int .u8 (new.toNat : Int))))
    have HOP := Lib.hid (sOpen (some ⟨g3, 0, none⟩) (n + 13) c3 ((sealL p).set i new) _ (by rw [List.length_set, sealL_len, HL.out]) (by omega) hle3 (Row.br (D := Any) HR4.out (fun _ _ => trivial)) (HT.out.no HF4.out))
    have HFS := Lib.hid HF4.out
    clear hcell hfr hr3 hF3 hn3 HCO HF2 hle3
    generalize old.toNat = ol at *
    by_cases hi : i < 2
    · have d5 : decide ((i : Int) < 2) = true := decide_eq_true (by omega)
      have d5' : decide (i < 2) = true := decide_eq_true hi
      have HT2 := Lib.hid (show openE ((sealL p).set i new) = 22 by rw [HTO.out, if_pos hi])
      clear hi HTO
      go_wp2_with fail
      refine HOP.out.mono ?_
      rintro e w5 ⟨A5, c5, rb5, rfl, _, _, hF5⟩
      rw [openP_of HT2.out (by decide), HT2.out]
      have HF5 := Lib.hid (HFS.out.then_ hF5)
      clear hF5
      go_wp2
      go_ret
      exact ⟨rfl, HF5.out⟩
    · have d5 : decide ((i : Int) < 2) = false := decide_eq_false (by omega)
      have d5' : decide (i < 2) = false := decide_eq_false hi
      have HT2 := Lib.hid (show openE ((sealL p).set i new) = 24 by rw [HTO.out, if_neg hi])
      clear hi HTO
      go_wp2_with fail
      refine HOP.out.mono ?_
      rintro e w5 ⟨A5, c5, rb5, rfl, _, _, hF5⟩
      rw [openP_of HT2.out (by decide), HT2.out]
      have HF5 := Lib.hid (HFS.out.then_ hF5)
      clear hF5
      go_wp2
      go_ret
      exact ⟨rfl, HF5.out⟩
theorem told_row (w : World) (hT : Tab w) (A : Option Addr) (c : Nat) (x : List UInt8) (hA : BR Any w A x) (hc : x.length ≤ c) (hb : c ≤ 140737488351232) (place : Int) (_w : (Lit.int .i64 place).wf = true) (y : Int) (_w' : (Lit.int .i64 y).wf = true) :
    Calls Tryd.prog 7 #[.slice A x.length c, .int .i64 place, .int .i64 y] w fun e w' => e = .returned (.bool true) ∧ Below w.heap.size w w' :=
  (told_walk A _ c place y x w rfl (by omega) hA hT).mono fun _ _ ⟨h, h'⟩ => ⟨h, h'.to⟩
end Go.Proofs.YtfpjdgkooikeoaaDoor.Sl
