/- The document's Open. Conditions: none. -/
import Derived.Test.YtfpjdgkooikeoaaDoorHelC
namespace Go.Proofs.YtfpjdgkooikeoaaDoor.Sl
open Go.RowKit Go.Proofs.YtfpjdgkooikeoaaDoor.Mem
set_option linter.unusedVariables false
set_option linter.unusedSimpArgs false
theorem ans_err {w w' : World} {b : List UInt8} {k : Int} (he : openE b = k) (h0 : k ≠ 0) (hF : Fr No w w') : Ans w w' (openP b) (openE b) (.returned (.tuple #[.slice none 0 0, .int .i64 k])) := ans_nil (openP_of he h0) he hF
set_option maxHeartbeats 4000000 in
set_option maxRecDepth 100000 in
theorem dOpen (A : Option Addr) (c : Nat) (b : List UInt8) (w : World) (hn' : b.length ≤ 140737488355328) (hc' : b.length ≤ c) (hA : BR Any w A b) : Calls Tryd.prog 39 #[.slice A b.length c] w fun e w' => Ans w w' (openP b) (openE b) e := by
  obtain ⟨n, hl⟩ : ∃ n, b.length = n := ⟨_, rfl⟩
  rw [hl] at hn' hc' ⊢
  have hn := hn'
  have hc := hc'
  clear hn' hc'
  have HA := Lib.hid hA
  have HL := Lib.hid hl
  rcases Nat.eq_zero_or_pos n with rfl | hn0
  · have HE := Lib.hid (show openE b = 21 by
      have : ¬ badMark b := by unfold badMark; rw [hl]; omega
      unfold openE
      rw [if_neg this, if_pos (by omega)])
    clear hA hl
    go_enter Tryd.func39, Tryd.ntmps39
    go_wp2
    go_ret2
    exact ans_err HE.out (by decide) (Fr.refl _ _)
  obtain ⟨ad, rfl, c0⟩ := hA.at_ 0 (by omega)
  rw [show ad.add 0 = ad from rfl] at c0
  obtain ⟨k, o, rfl⟩ := spot c0
  have hg0 : b.getD 0 0 = b[0] := by simp [List.getD_eq_getElem?_getD, List.getElem?_eq_getElem (show 0 < b.length by omega)]
  have dn0 : decide ((0 : Int) < (n : Int)) = true := decide_eq_true (by omega)
  have dn0' : decide (0 < n) = true := decide_eq_true hn0
  have hi0 : (0 : Int) < (n : Int) := by omega
  by_cases hb0 : b[0] = 0x46
  · rw [hb0] at c0
    have c0' : w.cell? ⟨k, o, none⟩ = some (.int .u8 70) := c0
    clear c0
    by_cases hn1 : 1 < n
    · obtain ⟨_, hq, c1⟩ := hA.at_ 1 (by omega)
      cases hq
      rw [show (⟨k, o, none⟩ : Addr).add 1 = ⟨k, o + 1, none⟩ from rfl] at c1
      have hg1 : b.getD 1 0 = b[1] := by simp [List.getD_eq_getElem?_getD, List.getElem?_eq_getElem (show 1 < b.length by omega)]
      have dn1 : decide ((1 : Int) < (n : Int)) = true := decide_eq_true (by omega)
      have dn1' : decide (1 < n) = true := decide_eq_true hn1
      have hi1 : (1 : Int) < (n : Int) := by omega
      by_cases hb1 : b[1] = 0x4C
      · rw [hb1] at c1
        have c1' : w.cell? ⟨k, o + 1, none⟩ = some (.int .u8 76) := c1
        clear c1
        have hbm : ¬ badMark b := by
          unfold badMark
          rw [hg0, hg1, hb0, hb1]
          simp
        by_cases h9 : n < 9
        · have HE := Lib.hid (show openE b = 21 by unfold openE; rw [if_neg hbm, if_pos (by omega)])
          have d9 : decide ((n : Int) < 9) = true := decide_eq_true (by omega)
          have d9' : decide (n < 9) = true := decide_eq_true h9
          clear hA hl hg0 hg1 hb0 hb1 hbm
          go_enter Tryd.func39, Tryd.ntmps39
          go_wp2
          go_ret2
          exact ans_err HE.out (by decide) (Fr.refl _ _)
        · have d9 : decide ((n : Int) < 9) = false := decide_eq_false (by omega)
          have d9' : decide (n < 9) = false := decide_eq_false h9
          have h5c : 5 ≤ c := by omega
          have h5ci : (5 : Int) ≤ (c : Int) := by omega
          have HBM := Lib.hid (show openE b = if (b.drop 5).take 4 ≠ sumB (b.take 5) then 24 else if 65536 < lenL b then 20 else if b.length < lenL b + 13 then 21 else if lenL b + 13 < b.length then 23 else if b.drop (9 + lenL b) ≠ sumB (midL b) then 24 else 0 by
            unfold openE
            rw [if_neg hbm, if_neg (by omega)])
          have HS1 := Lib.hid (rSum (some ⟨k, o, none⟩) 5 c (b.take 5) w (by rw [List.length_take]; omega) (by omega) (BR.take hA 5))
          have HS2 := Lib.hid (rsummed (some ⟨k, o, none⟩) n c 5 b (crcL (b.take 5)) w hl (by omega) (by omega) hA)
          rw [show four (crcL (b.take 5)) = sumB (b.take 5) from rfl] at HS2
          clear hA hl hg0 hg1 hb0 hb1 hbm
          go_enter Tryd.func39, Tryd.ntmps39
          go_wp2_with fail
          refine HS1.out.mono ?_
          rintro e w1 ⟨rfl, rfl⟩
          go_wp2_with fail
          refine HS2.out.mono ?_
          rintro e w2 ⟨rfl, hF2⟩
          have HF2 := Lib.hid hF2
          clear hF2 HS1 HS2 c0' c1'
          by_cases hs : (b.drop 5).take 4 = sumB (b.take 5)
          rotate_left
          · rw [decide_eq_false hs]
            have HE := Lib.hid (show openE b = 24 by rw [HBM.out, if_pos hs])
            clear hs HBM
            go_wp2
            go_ret2
            exact ans_err HE.out (by decide) HF2.out
          rw [decide_eq_true hs]
          have HBN := Lib.hid (show openE b = if 65536 < lenL b then 20 else if b.length < lenL b + 13 then 21 else if lenL b + 13 < b.length then 23 else if b.drop (9 + lenL b) ≠ sumB (midL b) then 24 else 0 by
            rw [HBM.out, if_neg (fun q => q hs)])
          have HLE := Lib.hid (rlength (some ⟨k, o, none⟩) n c b w2 HL.out (by omega) (HA.out.fr HF2.out (fun _ _ _ q => q)))
          have hml := lenL_lt b
          obtain ⟨m, hm⟩ : ∃ m, lenL b = m := ⟨_, rfl⟩
          have HM := Lib.hid hm
          rw [hm] at HLE HBN hml
          clear hs HBM hm
          go_wp2_with fail
          refine HLE.out.mono ?_
          rintro e w5 ⟨rfl, hF5⟩
          have HF5 := Lib.hid (HF2.out.then_ hF5)
          have hw13 : IntKind.i64.wrap ((m : Int) + 13) = (m : Int) + 13 := IntWalk.i64_in _ (by omega)
          clear hF5 HF2 HLE
          by_cases k1 : 65536 < m
          · have e1 : decide ((65536 : Int) < (m : Int)) = true := decide_eq_true (by omega)
            have e1' : decide (65536 < m) = true := decide_eq_true k1
            have HE := Lib.hid (show openE b = 20 by rw [HBN.out, if_pos k1])
            clear k1 HBN
            go_wp2
            go_ret2
            exact ans_err HE.out (by decide) HF5.out
          have e1 : decide ((65536 : Int) < (m : Int)) = false := decide_eq_false (by omega)
          have e1' : decide (65536 < m) = false := decide_eq_false k1
          by_cases k2 : n < m + 13
          · have e2 : decide ((n : Int) < (m : Int) + 13) = true := decide_eq_true (by omega)
            have e2' : decide (n < m + 13) = true := decide_eq_true k2
            have HE := Lib.hid (show openE b = 21 by rw [HBN.out, if_neg k1, if_pos (by rw [HL.out]; exact k2)])
            clear k1 k2 HBN
            go_wp2
            go_ret2
            exact ans_err HE.out (by decide) HF5.out
          have e2 : decide ((n : Int) < (m : Int) + 13) = false := decide_eq_false (by omega)
          have e2' : decide (n < m + 13) = false := decide_eq_false k2
          by_cases k3 : m + 13 < n
          · have e3 : decide ((m : Int) + 13 < (n : Int)) = true := decide_eq_true (by omega)
            have e3' : decide (m + 13 < n) = true := decide_eq_true k3
            have HE := Lib.hid (show openE b = 23 by rw [HBN.out, if_neg k1, if_neg (by rw [HL.out]; exact k2), if_pos (by rw [HL.out]; exact k3)])
            clear k1 k2 k3 HBN
            go_wp2
            go_ret2
            exact ans_err HE.out (by decide) HF5.out
          have e3 : decide ((m : Int) + 13 < (n : Int)) = false := decide_eq_false (by omega)
          have e3' : decide (m + 13 < n) = false := decide_eq_false k3
          have HBO := Lib.hid (show openE b = if b.drop (9 + m) ≠ sumB (midL b) then 24 else 0 by rw [HBN.out, if_neg k1, if_neg (by rw [HL.out]; exact k2), if_neg (by rw [HL.out]; exact k3)])
          obtain rfl : n = m + 13 := by omega
          have hw9 : IntKind.i64.wrap (9 + (m : Int)) = 9 + (m : Int) := IntWalk.i64_in _ (by omega)
          have hmc : (9 : Int) + (m : Int) ≤ (c : Int) := by omega
          have hmcn : 9 + m ≤ c := by omega
          have hmc0 : (0 : Int) ≤ 9 + (m : Int) := by omega
          have hmc1 : (9 : Int) ≤ 9 + (m : Int) := by omega
          have htn : ((9 : Int) + (m : Int)).toNat = 9 + m := by omega
          have hce : ¬ (c = 9) := by omega
          have hmid : (midL b).length = m := by unfold midL; rw [List.length_take, List.length_drop, HL.out, HM.out]; omega
          have HMID := Lib.hid hmid
          have HBP := Lib.hid (show BR Any w5 (some ⟨k, o + 9, none⟩) (midL b) from by unfold midL; exact BR.sub (HA.out.fr HF5.out (fun _ _ _ q => q)) 9 (lenL b))
          have HS3 := Lib.hid (rSum (some ⟨k, o + 9, none⟩) m (c - 9) (midL b) w5 hmid (by omega) HBP.out)
          have HS4 := Lib.hid (rsummed (some ⟨k, o, none⟩) (m + 13) c (9 + m) b (crcL (midL b)) w5 HL.out (by omega) (by omega) (HA.out.fr HF5.out (fun _ _ _ q => q)))
          rw [show four (crcL (midL b)) = sumB (midL b) from rfl, List.take_of_length_le (show (b.drop (9 + m)).length ≤ 4 by have := HL.out; rw [List.length_drop]; omega), show ((9 + m : Nat) : Int) = 9 + (m : Int) by omega] at HS4
          clear k1 k2 k3 HBN hmid
          go_wp2_with fail
          refine HS3.out.mono ?_
          rintro e w6 ⟨rfl, rfl⟩
          go_wp2_with fail
          refine HS4.out.mono ?_
          rintro e w7 ⟨rfl, hF7⟩
          have HF7 := Lib.hid (HF5.out.then_ hF7)
          have HBP7 := Lib.hid (HBP.out.fr hF7 (fun _ _ _ q => q))
          clear hF7 HF5 HBP HS3 HS4
          by_cases hs2 : b.drop (9 + m) = sumB (midL b)
          rotate_left
          · rw [decide_eq_false hs2]
            have HE := Lib.hid (show openE b = 24 by rw [HBO.out, if_pos hs2])
            clear hs2 HBO
            go_wp2
            go_ret2
            exact ans_err HE.out (by decide) HF7.out
          rw [decide_eq_true hs2]
          have HE := Lib.hid (show openE b = 0 by rw [HBO.out, if_neg (fun q => q hs2)])
          have HPP := Lib.hid (show openP b = midL b by unfold openP; rw [if_pos HE.out])
          have hF8 : Fr No w7 (w7.alloc (.cells #[] 5 (0, 0))) := (Fr.refl _ _).alloc _
          have HC := Lib.hid (show 0 < m → ∃ ad, some (⟨k, o + 9, none⟩ : Addr) = some ad ∧ ∀ j u, (bv (midL b))[j]? = some u → (w7.alloc (.cells #[] 5 (0, 0))).cell? (ad.add j) = some u from fun h => (HBP7.out.fr hF8 (fun _ _ _ q => q)).cells (by rw [HMID.out]; exact h))
          have HF8 := Lib.hid (HF7.out.then_ hF8)
          clear hs2 HBO HBP7 hF8
          go_wp2_with (at_builtin; refine wl_append _ rfl (.tmp 60) (.tmp 64) 22 rfl 5 _ 1 1 Tryd.underlying22 info8 rfl (by decide) none _ 0 [] rfl (Row.no _ _ _ _) (some ⟨k, o + 9, none⟩) m (c - 9) (bv (midL b)) rfl (by rw [bv_len, HMID.out, Nat.mul_one]) HC.out (bv_one _) (by unfold maxLen; omega) (by omega) ?_; intro A9 c9 w9 rb9 hrow9 hF9 hnb9)
          rw [Nat.zero_add, List.nil_append] at hrow9
          go_ret2
          refine ⟨A9, c9, rb9, by rw [HPP.out, HE.out, HMID.out]; simp, by rw [HPP.out, HMID.out]; exact hrow9, fun q hq => ?_, HF8.out.trans hF9 (fun q _ h => by cases h)⟩
          rcases hnb9 with h | ⟨q', h, hle⟩
          · rw [h] at hq; cases hq
          · rw [h] at hq
            cases hq
            exact Nat.le_trans HF8.out.size hle
      · have HE := Lib.hid (show openE b = 22 by unfold openE; rw [if_pos (.inr ⟨by omega, by rw [hg1]; exact hb1⟩)])
        have hx : ((b[1].toNat : Int) != 76) = true := by simpa using u8_int_ne (k := 76) (by omega) hb1
        generalize b[1].toNat = X at *
        clear hA hl hg0 hg1 hb0 hb1
        go_enter Tryd.func39, Tryd.ntmps39
        go_wp2
        go_ret2
        exact ans_err HE.out (by decide) (Fr.refl _ _)
    · obtain rfl : n = 1 := by omega
      have HE := Lib.hid (show openE b = 21 by
        have : ¬ badMark b := by unfold badMark; rw [hl, hg0, hb0]; simp
        unfold openE
        rw [if_neg this, if_pos (by omega)])
      clear hA hl hg0 hb0
      go_enter Tryd.func39, Tryd.ntmps39
      go_wp2
      go_ret2
      exact ans_err HE.out (by decide) (Fr.refl _ _)
  · have HE := Lib.hid (show openE b = 22 by unfold openE; rw [if_pos (.inl ⟨by omega, by rw [hg0]; exact hb0⟩)])
    have hx : ((b[0].toNat : Int) != 70) = true := by simpa using u8_int_ne (k := 70) (by omega) hb0
    generalize b[0].toNat = X at *
    clear hA hl hg0 hb0
    go_enter Tryd.func39, Tryd.ntmps39
    go_wp2
    go_ret2
    exact ans_err HE.out (by decide) (Fr.refl _ _)
/-- which of the two is asked -/
def ansP (op : Bool) (b : List UInt8) : List UInt8 := if op then openP b else sP b
def ansE (op : Bool) (b : List UInt8) : Int := if op then openE b else sE b
theorem ask (op : Bool) (A : Option Addr) (c : Nat) (b : List UInt8) (w : World) (hn : b.length ≤ 140737488355328) (hc : b.length ≤ c) (hA : BR Any w A b) (hT : Tab w) : Calls Tryd.prog 29 #[.bool op, .slice A b.length c] w fun e w' => Ans w w' (ansP op b) (ansE op b) e := by
  cases op
  · have H := Lib.hid (pSeal A c b w (by omega) hA hT)
    generalize b.length = n at *
    clear hA hT
    go_enter Tryd.func29, Tryd.ntmps29
    go_wp2_with fail
    refine H.out.mono ?_
    rintro e w' ⟨A', c', rb, rfl, h1, h2, h3⟩
    have H1 := Lib.hid h1
    clear h1
    go_wp2
    go_ret2
    exact ⟨A', c', rb, rfl, H1.out, h2, h3⟩
  · have H := Lib.hid (pOpen A c b w (by omega) hc hA hT)
    generalize b.length = n at *
    clear hA hT
    go_enter Tryd.func29, Tryd.ntmps29
    go_wp2_with fail
    refine H.out.mono ?_
    rintro e w' ⟨A', c', rb, rfl, h1, h2, h3⟩
    have H1 := Lib.hid h1
    clear h1
    go_wp2
    go_ret2
    exact ⟨A', c', rb, rfl, H1.out, h2, h3⟩
theorem doc (op : Bool) (A : Option Addr) (c : Nat) (b : List UInt8) (w : World) (hn : b.length ≤ 140737488355328) (hc : b.length ≤ c) (hA : BR Any w A b) : Calls Tryd.prog 28 #[.bool op, .slice A b.length c] w fun e w' => Ans w w' (ansP op b) (ansE op b) e := by
  cases op
  · have H := Lib.hid (dSeal A c b w (by omega) hA)
    generalize b.length = n at *
    clear hA
    go_enter Tryd.func28, Tryd.ntmps28
    go_wp2_with fail
    refine H.out.mono ?_
    rintro e w' ⟨A', c', rb, rfl, h1, h2, h3⟩
    have H1 := Lib.hid h1
    clear h1
    go_wp2
    go_ret2
    exact ⟨A', c', rb, rfl, H1.out, h2, h3⟩
  · have H := Lib.hid (dOpen A c b w hn hc hA)
    generalize b.length = n at *
    clear hA
    go_enter Tryd.func28, Tryd.ntmps28
    go_wp2_with fail
    refine H.out.mono ?_
    rintro e w' ⟨A', c', rb, rfl, h1, h2, h3⟩
    have H1 := Lib.hid h1
    clear h1
    go_wp2
    go_ret2
    exact ⟨A', c', rb, rfl, H1.out, h2, h3⟩
end Go.Proofs.YtfpjdgkooikeoaaDoor.Sl
