/- Open. Conditions: none. -/
import Derived.Test.YtfpjdgkooikeoaaDoorSealF
namespace Go.Proofs.YtfpjdgkooikeoaaDoor.Sl
open Go.RowKit Go.Proofs.YtfpjdgkooikeoaaDoor.Mem
set_option linter.unusedVariables false
set_option linter.unusedSimpArgs false
/-- does it begin as a datagram? -/
def badMark (b : List UInt8) : Prop := (0 < b.length ∧ b.getD 0 0 ≠ 0x46) ∨ (1 < b.length ∧ b.getD 1 0 ≠ 0x4C)
instance (b : List UInt8) : Decidable (badMark b) := by unfold badMark; infer_instance
def midL (b : List UInt8) : List UInt8 := (b.drop 9).take (lenL b)
/-- Open's error -/
def openE (b : List UInt8) : Int :=
  if badMark b then 22 else if b.length < 9 then 21 else if (b.drop 5).take 4 ≠ sumB (b.take 5) then 24 else if 65536 < lenL b then 20 else if b.length < lenL b + 13 then 21 else if lenL b + 13 < b.length then 23
  else if b.drop (9 + lenL b) ≠ sumB (midL b) then 24 else 0
def openP (b : List UInt8) : List UInt8 := if openE b = 0 then midL b else []
theorem BR.sub {D : Nat → Prop} {w : World} {k o : Nat} {l : List UInt8} (h : BR D w (some ⟨k, o, none⟩) l) (i m : Nat) : BR D w (some ⟨k, o + i, none⟩) ((l.drop i).take m) := fun j u hj => by
  have hj2 : l[i + j]? = some u := by
    rw [List.getElem?_take] at hj
    split at hj
    · rwa [List.getElem?_drop] at hj
    · cases hj
  obtain ⟨ad, he, hd, hc⟩ := h (i + j) u hj2
  cases he
  refine ⟨_, rfl, hd, ?_⟩
  have e : ∀ (a b : Nat), (⟨k, a, none⟩ : Addr).add b = ⟨k, a + b, none⟩ := fun a b => by unfold Addr.add; split <;> simp_all
  rw [e] at hc ⊢
  rw [Nat.add_assoc]
  exact hc
theorem BR.take {D : Nat → Prop} {w : World} {A : Option Addr} {l : List UInt8} (h : BR D w A l) (m : Nat) : BR D w A (l.take m) := fun j u hj => by
  rw [List.getElem?_take] at hj
  split at hj
  · exact h j u hj
  · cases hj
theorem spot {w : World} {ad : Addr} {v : Value} (h : w.cell? ad = some v) : ∃ b o, ad = ⟨b, o, none⟩ := by
  obtain ⟨b, o, sp⟩ := ad
  cases sp with
  | none => exact ⟨b, o, rfl⟩
  | some s =>
    exfalso
    unfold World.cell? at h
    split at h
    · simp at h
    · cases h
theorem u8_int_ne {x : UInt8} {k : Nat} (hk : k < 256) (h : x ≠ UInt8.ofNat k) : (x.toNat : Int) ≠ (k : Int) := fun q => h (UInt8.toNat_inj.1 (by rw [UInt8.toNat_ofNat']; omega))
theorem openP_of {b : List UInt8} {e : Int} (h : openE b = e) (he : e ≠ 0) : openP b = [] := by unfold openP; rw [if_neg (by omega)]
theorem BR.of_block' {w : World} {g t : Nat} {l : List UInt8} (h : Bk w g t (bv l)) : BR Any w (some ⟨g, 0, none⟩) l := BR.of_block h trivial
/-- what Open leaves -/
def Opened (w w' : World) (b : List UInt8) (e : Ending) : Prop := ∃ A c rb, e = .returned (.tuple #[.slice A (openP b).length c, .int .i64 (openE b)]) ∧ Row w' 5 1 rb (.slice A (openP b).length c) (openP b).length (bv (openP b)) ∧ (∀ k, rb = some k → w.heap.size ≤ k) ∧ Fr No w w'
theorem opened_no {w w' : World} {b : List UInt8} {k : Int} (he : openE b = k) (h0 : k ≠ 0) (hF : Fr No w w') : Opened w w' b (.returned (.tuple #[.slice none 0 0, .int .i64 k])) := by
  have hp := openP_of he h0
  refine ⟨none, 0, none, by rw [hp, he]; rfl, by rw [hp]; exact Row.nil _ _ _, (fun k h => by cases h), hF⟩
theorem opened_ok {w w' w9 : World} {b : List UInt8} {m : Nat} (he : openE b = 0) (hp : openP b = midL b) (hm : (midL b).length = m) (hB : Bk w' w9.heap.size 5 (bv (midL b))) (hg : w.heap.size ≤ w9.heap.size) (hF : Fr No w w') : Opened w w' b (.returned (.tuple #[.slice (some ⟨w9.heap.size, 0, none⟩) m m, .int .i64 0])) := by
  subst hm
  have hmax : (midL b).length ≤ maxLen := by
    have := lenL_lt b
    unfold midL
    rw [List.length_take]
    unfold maxLen
    omega
  have hr := Row.made (n := (midL b).length) (size := 1) hB (by simp [bv]) hmax
  exact ⟨some ⟨w9.heap.size, 0, none⟩, (midL b).length, some w9.heap.size, by rw [hp, he], by rw [hp]; exact hr, (fun k h => by cases h; exact hg), hF⟩
set_option maxHeartbeats 4000000 in
theorem sOpen (A : Option Addr) (n c : Nat) (b : List UInt8) (w : World) (hl : b.length = n) (hn : n ≤ 4611686018427387904) (hc : n ≤ c) (hA : BR Any w A b) (hT : Tab w) :
    Calls Tryd.prog 17 #[.slice A n c] w fun e w' => Opened w w' b e := by
  have HA := Lib.hid hA
  have HL := Lib.hid hl
  have HT := Lib.hid hT
  rcases Nat.eq_zero_or_pos n with rfl | hn0
  · have HE := Lib.hid (show openE b = 21 by
      have : ¬ badMark b := by unfold badMark; rw [hl]; omega
      unfold openE
      rw [if_neg this, if_pos (by omega)])
    clear hA hl hT
    go_enter Tryd.func17, Tryd.ntmps17
    go_wp2
    go_ret2
    exact opened_no HE.out (by decide) (Fr.refl _ _)
  obtain ⟨ad, rfl, c0⟩ := hA.at_ 0 (by omega)
  rw [show ad.add 0 = ad from rfl] at c0
  obtain ⟨k, o, rfl⟩ := spot c0
  have hg0 : b.getD 0 0 = b[0] := by simp [List.getD_eq_getElem?_getD, List.getElem?_eq_getElem (show 0 < b.length by omega)]
  have dn0 : decide ((0 : Int) < (n : Int)) = true := decide_eq_true (by omega)
  have dn0' : decide (0 < n) = true := decide_eq_true hn0
  have hi0 : (0 : Int) < (n : Int) := by omega
  by_cases hb0 : b[0] = 0x46
  · rw [hb0] at c0
    have c0' : w.cell? ⟨k, o, none⟩ = some (.int .u8 70) := c0
    clear c0
    by_cases hn1 : 1 < n
    · obtain ⟨_, hq, c1⟩ := hA.at_ 1 (by omega)
      cases hq
      rw [show (⟨k, o, none⟩ : Addr).add 1 = ⟨k, o + 1, none⟩ from rfl] at c1
      have hg1 : b.getD 1 0 = b[1] := by simp [List.getD_eq_getElem?_getD, List.getElem?_eq_getElem (show 1 < b.length by omega)]
      have dn1 : decide ((1 : Int) < (n : Int)) = true := decide_eq_true (by omega)
      have dn1' : decide (1 < n) = true := decide_eq_true hn1
      have hi1 : (1 : Int) < (n : Int) := by omega
      by_cases hb1 : b[1] = 0x4C
      · rw [hb1] at c1
        have c1' : w.cell? ⟨k, o + 1, none⟩ = some (.int .u8 76) := c1
        clear c1
        have hbm : ¬ badMark b := by
          unfold badMark
          rw [hg0, hg1, hb0, hb1]
          simp
        by_cases h9 : n < 9
        · have HE := Lib.hid (show openE b = 21 by unfold openE; rw [if_neg hbm, if_pos (by omega)])
          have d9 : decide ((n : Int) < 9) = true := decide_eq_true (by omega)
          have d9' : decide (n < 9) = true := decide_eq_true h9
          clear hA hl hT hg0 hg1 hb0 hb1 hbm
          go_enter Tryd.func17, Tryd.ntmps17
          go_wp2
          go_ret2
          exact opened_no HE.out (by decide) (Fr.refl _ _)
        · have d9 : decide ((n : Int) < 9) = false := decide_eq_false (by omega)
          have d9' : decide (n < 9) = false := decide_eq_false h9
          have h5c : 5 ≤ c := by omega
          have h5ci : (5 : Int) ≤ (c : Int) := by omega
          have h9n : 9 ≤ n := by omega
          have h9ni : (9 : Int) ≤ (n : Int) := by omega
          have h9c : 9 ≤ c := by omega
          have h9ci : (9 : Int) ≤ (c : Int) := by omega
          have HBM := Lib.hid (show openE b = if (b.drop 5).take 4 ≠ sumB (b.take 5) then 24 else if 65536 < lenL b then 20 else if b.length < lenL b + 13 then 21 else if lenL b + 13 < b.length then 23 else if b.drop (9 + lenL b) ≠ sumB (midL b) then 24 else 0 by
            unfold openE
            rw [if_neg hbm, if_neg (by omega)])
          have HS1 := Lib.hid (sumBytes (some ⟨k, o, none⟩) 5 5 (b.take 5) w (by rw [List.length_take]; omega) (by omega) (BR.take hA 5) hT)
          obtain ⟨s0, s1, s2, s3, hsv, _, _, _, _, _⟩ := four_cells (crcL (b.take 5))
          have HSV := Lib.hid (show bv (sumB (b.take 5)) = _ from hsv)
          rw [show bv (sumB (b.take 5)) = _ from hsv] at HS1
          clear hsv hA hl hT hg0 hg1 hb0 hb1 hbm
          go_enter Tryd.func17, Tryd.ntmps17
          go_wp2_with fail
          refine HS1.out.mono ?_
          rintro e w1 ⟨rfl, hF1⟩
          obtain ⟨w2, hw2⟩ : ∃ w2, w1.alloc (.cells #[.int .u8 (s0 : Int), .int .u8 (s1 : Int), .int .u8 (s2 : Int), .int .u8 (s3 : Int)] 57 (0, 0)) = w2 := ⟨_, rfl⟩
          have HF2 := Lib.hid (show Fr No w w2 by rw [← hw2]; exact hF1.alloc _)
          obtain ⟨g1, hg1⟩ : ∃ g1, w1.heap.size = g1 := ⟨_, rfl⟩
          have HX2 := Lib.hid (show Bk w2 g1 57 (bv (sumB (b.take 5))) by rw [← hw2, ← hg1, HSV.out]; exact Bk.new _ _ _)
          clear hF1 HS1 c0' c1'
          go_wp2
          clear hw2 hg1
          go_still_tail 3, (by kernel_rfl)
          change wpList _ _ _ _ _ w2.drew
          generalize hw3 : w2.drew = w3
          have hF3 : Fr No w2 w3 := by rw [← hw3]; exact (Fr.refl _ _).drew
          have HF3 := Lib.hid (HF2.out.then_ hF3)
          have HEQ := Lib.hid (bEqual (some ⟨k, o + 5, none⟩) (some ⟨g1, 0, none⟩) 4 4 (c - 5) 4 ((b.drop 5).take 4) (sumB (b.take 5)) w3 (by rw [List.length_take, List.length_drop, HL.out]; omega) rfl (BR.sub (HA.out.fr HF3.out (fun _ _ _ q => q)) 5 4) (BR.of_block' (HX2.out.fr hF3 id)))
          clear hw3 hF3 HF2 HX2
          go_wp2_with fail
          refine HEQ.out.mono ?_
          rintro e w4 ⟨rfl, rfl⟩
          by_cases hs : (b.drop 5).take 4 = sumB (b.take 5)
          rotate_left
          · rw [decide_eq_false hs]
            have HE := Lib.hid (show openE b = 24 by rw [HBM.out, if_pos hs])
            clear hs HBM HEQ
            go_wp2
            go_ret2
            exact opened_no HE.out (by decide) HF3.out
          rw [decide_eq_true hs]
          have HBN := Lib.hid (show openE b = if 65536 < lenL b then 20 else if b.length < lenL b + 13 then 21 else if lenL b + 13 < b.length then 23 else if b.drop (9 + lenL b) ≠ sumB (midL b) then 24 else 0 by
            rw [HBM.out, if_neg (fun q => q hs)])
          have HLE := Lib.hid (slength (some ⟨k, o, none⟩) n c b w4 HL.out (by omega) (HA.out.fr HF3.out (fun _ _ _ q => q)))
          have hml := lenL_lt b
          obtain ⟨m, hm⟩ : ∃ m, lenL b = m := ⟨_, rfl⟩
          have HM := Lib.hid hm
          rw [hm] at HLE HBN hml
          clear hs HBM HEQ hm
          go_wp2_with fail
          refine HLE.out.mono ?_
          rintro e w5 ⟨rfl, hF5⟩
          have HF5 := Lib.hid (HF3.out.then_ hF5)
          have hw13 : IntKind.i64.wrap ((m : Int) + 13) = (m : Int) + 13 := IntWalk.i64_in _ (by omega)
          clear hF5 HF3 HLE
          by_cases k1 : 65536 < m
          · have e1 : decide ((65536 : Int) < (m : Int)) = true := decide_eq_true (by omega)
            have e1' : decide (65536 < m) = true := decide_eq_true k1
            have HE := Lib.hid (show openE b = 20 by rw [HBN.out, if_pos k1])
            clear k1 HBN
            go_wp2
            go_ret2
            exact opened_no HE.out (by decide) HF5.out
          have e1 : decide ((65536 : Int) < (m : Int)) = false := decide_eq_false (by omega)
          have e1' : decide (65536 < m) = false := decide_eq_false k1
          by_cases k2 : n < m + 13
          · have e2 : decide ((n : Int) < (m : Int) + 13) = true := decide_eq_true (by omega)
            have e2' : decide (n < m + 13) = true := decide_eq_true k2
            have HE := Lib.hid (show openE b = 21 by rw [HBN.out, if_neg k1, if_pos (by rw [HL.out]; exact k2)])
            clear k1 k2 HBN
            go_wp2
            go_ret2
            exact opened_no HE.out (by decide) HF5.out
          have e2 : decide ((n : Int) < (m : Int) + 13) = false := decide_eq_false (by omega)
          have e2' : decide (n < m + 13) = false := decide_eq_false k2
          by_cases k3 : m + 13 < n
          · have e3 : decide ((m : Int) + 13 < (n : Int)) = true := decide_eq_true (by omega)
            have e3' : decide (m + 13 < n) = true := decide_eq_true k3
            have HE := Lib.hid (show openE b = 23 by rw [HBN.out, if_neg k1, if_neg (by rw [HL.out]; exact k2), if_pos (by rw [HL.out]; exact k3)])
            clear k1 k2 k3 HBN
            go_wp2
            go_ret2
            exact opened_no HE.out (by decide) HF5.out
          have e3 : decide ((m : Int) + 13 < (n : Int)) = false := decide_eq_false (by omega)
          have e3' : decide (m + 13 < n) = false := decide_eq_false k3
          have HBO := Lib.hid (show openE b = if b.drop (9 + m) ≠ sumB (midL b) then 24 else 0 by rw [HBN.out, if_neg k1, if_neg (by rw [HL.out]; exact k2), if_neg (by rw [HL.out]; exact k3)])
          obtain rfl : n = m + 13 := by omega
          have hw9 : IntKind.i64.wrap (9 + (m : Int)) = 9 + (m : Int) := IntWalk.i64_in _ (by omega)
          have hmc : (9 : Int) + (m : Int) ≤ (c : Int) := by omega
          have hmc0 : (0 : Int) ≤ 9 + (m : Int) := by omega
          have hmc1 : (9 : Int) ≤ 9 + (m : Int) := by omega
          have hmc2 : (9 : Int) + (m : Int) ≤ (m : Int) + 13 := by omega
          have htn : ((9 : Int) + (m : Int)).toNat = 9 + m := by omega
          clear k1 k2 k3 HBN
          go_wp2_with fail
          · have hm0 : m = 0 := by assumption
            subst hm0
            clear hw13 hw9 hmc hmc0 hmc1 hmc2 htn e1 e1' e2 e2' e3 e3' dn0 dn0' hi0 dn1 dn1' hi1 h9 d9 d9' h9n h9ni
            have hce : ¬ (c = 9) := by omega
            have h13 : (13 : Int) ≤ (c : Int) := by omega
            have h13n : 13 ≤ c := by omega
            have h9w : IntKind.i64.wrap 9 = 9 := IntWalk.i64_in _ (by omega)

            have HT5 := Lib.hid (HT.out.no HF5.out)
            have hmid : (midL b).length = 0 := by unfold midL; rw [List.length_take, List.length_drop, HL.out, HM.out]; omega
            have HMID := Lib.hid hmid
            have HBP := Lib.hid (show BR Any w5 (some ⟨k, o, none⟩) (midL b) from by rw [show midL b = [] by unfold midL; rw [HM.out]; exact List.take_zero]; exact BR.nil _ _ _)
            have HS2 := Lib.hid (sumBytes (some ⟨k, o, none⟩) 0 0 (midL b) w5 hmid (by omega) HBP.out HT5.out)
            obtain ⟨s4, s5, s6, s7, hsv, _, _, _, _, _⟩ := four_cells (crcL (midL b))
            have HSV2 := Lib.hid (show bv (sumB (midL b)) = _ from hsv)
            rw [show bv (sumB (midL b)) = _ from hsv] at HS2
            clear hsv hmid HT5
            refine HS2.out.mono ?_
            rintro e w6 ⟨rfl, hF6⟩
            obtain ⟨w7, hw7⟩ : ∃ w7, w6.alloc (.cells #[.int .u8 (s4 : Int), .int .u8 (s5 : Int), .int .u8 (s6 : Int), .int .u8 (s7 : Int)] 57 (0, 0)) = w7 := ⟨_, rfl⟩
            have hF7 : Fr No w5 w7 := by rw [← hw7]; exact hF6.alloc _
            have HF7 := Lib.hid (HF5.out.then_ hF7)
            have HBP7 := Lib.hid (HBP.out.fr hF7 (fun _ _ _ q => q))
            obtain ⟨g2, hg2⟩ : ∃ g2, w6.heap.size = g2 := ⟨_, rfl⟩
            have HX7 := Lib.hid (show Bk w7 g2 57 (bv (sumB (midL b))) by rw [← hw7, ← hg2, HSV2.out]; exact Bk.new _ _ _)
            clear hF6 HS2 HF5 hF7 HBP
            go_wp2
            clear hw7 hg2
            go_still_tail 5, (by kernel_rfl)
            change wpList _ _ _ _ _ w7.drew
            generalize hw8 : w7.drew = w8
            have hF8 : Fr No w7 w8 := by rw [← hw8]; exact (Fr.refl _ _).drew
            have HF8 := Lib.hid (HF7.out.then_ hF8)
            have HBP8 := Lib.hid (HBP7.out.fr hF8 (fun _ _ _ q => q))
            have HX8 := Lib.hid (HX7.out.fr hF8 id)
            clear hw8 hF8 HF7 HBP7 HX7

            have HDR := Lib.hid (show (b.drop (9)).take 4 = b.drop (9) from List.take_of_length_le (by have := HL.out; rw [List.length_drop]; omega))
            have HEQ2 := Lib.hid (bEqual (some ⟨k, o + (9), none⟩) (some ⟨g2, 0, none⟩) 4 4 (c - (9)) 4 (b.drop (9)) (sumB (midL b)) w8 (by have := HL.out; rw [List.length_drop]; omega) rfl (by rw [← HDR.out]; exact BR.sub (HA.out.fr HF8.out (fun _ _ _ q => q)) (9) 4) (BR.of_block' HX8.out))
            clear HX8
            go_wp2_with fail
            refine HEQ2.out.mono ?_
            rintro e w9 ⟨rfl, rfl⟩
            by_cases hs2 : b.drop (9) = sumB (midL b)
            rotate_left
            · rw [decide_eq_false hs2]
              have HE := Lib.hid (show openE b = 24 by rw [HBO.out, if_pos hs2])
              clear hs2 HBO HEQ2
              go_wp2
              go_ret2
              exact opened_no HE.out (by decide) HF8.out
            rw [decide_eq_true hs2]
            have HE := Lib.hid (show openE b = 0 by rw [HBO.out, if_neg (fun q => q hs2)])
            have HPP := Lib.hid (show openP b = midL b by unfold openP; rw [if_pos HE.out])
            have HCP := Lib.hid (scopied (some ⟨k, o, none⟩) 0 0 (midL b) w9 HMID.out (by omega) HBP8.out)
            clear hs2 HBO HEQ2 HBP8
            go_wp2_with fail
            refine HCP.out.mono ?_
            rintro e w10 ⟨rfl, hB10, hF10⟩
            have HB10 := Lib.hid hB10
            have HF10 := Lib.hid (HF8.out.then_ hF10)
            have HG9 := Lib.hid HF8.out.size
            clear hB10 hF10 HF8 HCP
            go_wp2
            go_ret2
            exact opened_ok HE.out HPP.out HMID.out HB10.out HG9.out HF10.out
          · have hce : ¬ (c = 9 + m) := by omega

            have HT5 := Lib.hid (HT.out.no HF5.out)
            have hmid : (midL b).length = m := by unfold midL; rw [List.length_take, List.length_drop, HL.out, HM.out]; omega
            have HMID := Lib.hid hmid
            have HBP := Lib.hid (show BR Any w5 (some ⟨k, o + 9, none⟩) (midL b) from by unfold midL; exact BR.sub (HA.out.fr HF5.out (fun _ _ _ q => q)) 9 (lenL b))
            have HS2 := Lib.hid (sumBytes (some ⟨k, o + 9, none⟩) m m (midL b) w5 hmid (by omega) HBP.out HT5.out)
            obtain ⟨s4, s5, s6, s7, hsv, _, _, _, _, _⟩ := four_cells (crcL (midL b))
            have HSV2 := Lib.hid (show bv (sumB (midL b)) = _ from hsv)
            rw [show bv (sumB (midL b)) = _ from hsv] at HS2
            clear hsv hmid HT5
            refine HS2.out.mono ?_
            rintro e w6 ⟨rfl, hF6⟩
            obtain ⟨w7, hw7⟩ : ∃ w7, w6.alloc (.cells #[.int .u8 (s4 : Int), .int .u8 (s5 : Int), .int .u8 (s6 : Int), .int .u8 (s7 : Int)] 57 (0, 0)) = w7 := ⟨_, rfl⟩
            have hF7 : Fr No w5 w7 := by rw [← hw7]; exact hF6.alloc _
            have HF7 := Lib.hid (HF5.out.then_ hF7)
            have HBP7 := Lib.hid (HBP.out.fr hF7 (fun _ _ _ q => q))
            obtain ⟨g2, hg2⟩ : ∃ g2, w6.heap.size = g2 := ⟨_, rfl⟩
            have HX7 := Lib.hid (show Bk w7 g2 57 (bv (sumB (midL b))) by rw [← hw7, ← hg2, HSV2.out]; exact Bk.new _ _ _)
            clear hF6 HS2 HF5 hF7 HBP
            go_wp2
            clear hw7 hg2
            go_still_tail 5, (by kernel_rfl)
            change wpList _ _ _ _ _ w7.drew
            generalize hw8 : w7.drew = w8
            have hF8 : Fr No w7 w8 := by rw [← hw8]; exact (Fr.refl _ _).drew
            have HF8 := Lib.hid (HF7.out.then_ hF8)
            have HBP8 := Lib.hid (HBP7.out.fr hF8 (fun _ _ _ q => q))
            have HX8 := Lib.hid (HX7.out.fr hF8 id)
            clear hw8 hF8 HF7 HBP7 HX7
            skip
            rw [show m + 13 - (9 + m) = 4 by omega]
            have HDR := Lib.hid (show (b.drop (9 + m)).take 4 = b.drop (9 + m) from List.take_of_length_le (by have := HL.out; rw [List.length_drop]; omega))
            have HEQ2 := Lib.hid (bEqual (some ⟨k, o + (9 + m), none⟩) (some ⟨g2, 0, none⟩) 4 4 (c - (9 + m)) 4 (b.drop (9 + m)) (sumB (midL b)) w8 (by have := HL.out; rw [List.length_drop]; omega) rfl (by rw [← HDR.out]; exact BR.sub (HA.out.fr HF8.out (fun _ _ _ q => q)) (9 + m) 4) (BR.of_block' HX8.out))
            clear HX8
            go_wp2_with fail
            refine HEQ2.out.mono ?_
            rintro e w9 ⟨rfl, rfl⟩
            by_cases hs2 : b.drop (9 + m) = sumB (midL b)
            rotate_left
            · rw [decide_eq_false hs2]
              have HE := Lib.hid (show openE b = 24 by rw [HBO.out, if_pos hs2])
              clear hs2 HBO HEQ2
              go_wp2
              go_ret2
              exact opened_no HE.out (by decide) HF8.out
            rw [decide_eq_true hs2]
            have HE := Lib.hid (show openE b = 0 by rw [HBO.out, if_neg (fun q => q hs2)])
            have HPP := Lib.hid (show openP b = midL b by unfold openP; rw [if_pos HE.out])
            have HCP := Lib.hid (scopied (some ⟨k, o + 9, none⟩) m m (midL b) w9 HMID.out (by omega) HBP8.out)
            clear hs2 HBO HEQ2 HBP8
            go_wp2_with fail
            refine HCP.out.mono ?_
            rintro e w10 ⟨rfl, hB10, hF10⟩
            have HB10 := Lib.hid hB10
            have HF10 := Lib.hid (HF8.out.then_ hF10)
            have HG9 := Lib.hid HF8.out.size
            clear hB10 hF10 HF8 HCP
            go_wp2
            go_ret2
            exact opened_ok HE.out HPP.out HMID.out HB10.out HG9.out HF10.out
      · have HE := Lib.hid (show openE b = 22 by unfold openE; rw [if_pos (.inr ⟨by omega, by rw [hg1]; exact hb1⟩)])
        have hx : ((b[1].toNat : Int) != 76) = true := by simpa using u8_int_ne (k := 76) (by omega) hb1
        generalize b[1].toNat = X at *
        clear hA hl hT hg0 hg1 hb0 hb1
        go_enter Tryd.func17, Tryd.ntmps17
        go_wp2
        go_ret2
        exact opened_no HE.out (by decide) (Fr.refl _ _)
    · obtain rfl : n = 1 := by omega
      have HE := Lib.hid (show openE b = 21 by
        have : ¬ badMark b := by unfold badMark; rw [hl, hg0, hb0]; simp
        unfold openE
        rw [if_neg this, if_pos (by omega)])
      clear hA hl hT hg0 hb0
      go_enter Tryd.func17, Tryd.ntmps17
      go_wp2
      go_ret2
      exact opened_no HE.out (by decide) (Fr.refl _ _)
  · have HE := Lib.hid (show openE b = 22 by unfold openE; rw [if_pos (.inl ⟨by omega, by rw [hg0]; exact hb0⟩)])
    have hx : ((b[0].toNat : Int) != 70) = true := by simpa using u8_int_ne (k := 70) (by omega) hb0
    generalize b[0].toNat = X at *
    clear hA hl hT hg0 hb0
    go_enter Tryd.func17, Tryd.ntmps17
    go_wp2
    go_ret2
    exact opened_no HE.out (by decide) (Fr.refl _ _)
end Go.Proofs.YtfpjdgkooikeoaaDoor.Sl
