/- Streams: 'agree' and 'begins', walked. Conditions: none. -/
import Derived.Test.YtfpjdgkooikeoaaDoorStrA
import Derived.Test.YtfpjdgkooikeoaaDoorSealI
import Derived.Deep.DeepCutAuto
namespace Go.Proofs.YtfpjdgkooikeoaaDoor.Sl
open Go.RowKit Go.Proofs.YtfpjdgkooikeoaaDoor.Mem
set_option linter.unusedVariables false
set_option linter.unusedSimpArgs false
set_option maxHeartbeats 2000000 in
theorem agree (A B : Option Addr) (n m c d : Nat) (x y : List UInt8) (w : World) (hx : x.length = n) (hy : y.length = m) (hc : n ≤ c) (hd : m ≤ d) (hn : n ≤ 4611686018427387904) (hm : m ≤ 4611686018427387904) (hA : BR Any w A x) (hB : BR Any w B y) :
    Calls Tryd.prog 41 #[.slice A n c, .slice B m d] w fun e w' => e = .returned (.bool (agr x y)) ∧ ∃ k, w' = w.drewN k := by
  obtain ⟨N, hN⟩ : ∃ N, min n m = N := ⟨_, rfl⟩
  have HE := Lib.hid (fun W (hF : Fr No w W) => bEqual A B N N c d (x.take N) (y.take N) W (by rw [List.length_take]; omega) (by rw [List.length_take]; omega) (BR.take (hA.fr hF (fun _ _ _ q => q)) N) (BR.take (hB.fr hF (fun _ _ _ q => q)) N))
  have hag : decide (x.take N = y.take N) = agr x y := by unfold agr; rw [hx, hy, hN]
  rw [hag] at HE
  have h0 : N ≤ c := by omega
  have h1 : (N : Int) ≤ (c : Int) := by omega
  have h2 : N ≤ d := by omega
  have h3 : (N : Int) ≤ (d : Int) := by omega
  have h4 : (0 : Int) ≤ (N : Int) := by omega
  have h5 : min (n : Int) (m : Int) = (N : Int) := by omega
  generalize agr x y = R at *
  clear hA hB hx hy hN hag
  go_enter Tryd.func41, Tryd.ntmps41
  go_upto_region 2 with (fail)
  go_quiet (first | (go_at_call 34; refine Calls.quiet_of_same (HE.out _ (by first | exact Fr.refl _ _ | exact (Fr.refl _ _).drewN _ | exact (Fr.refl _ _).drew))))
  go_wp2
  go_ret
  exact ⟨rfl, _, rfl⟩
set_option maxHeartbeats 4000000 in
theorem begins (A : Option Addr) (n c : Nat) (b : List UInt8) (w : World) (hl : b.length = n) (h0 : 0 < n) (hc : n ≤ c) (hn : n ≤ 4611686018427387904) (hA : BR Any w A b) (hT : Tab w) :
    Calls Tryd.prog 37 #[.slice A n c] w fun e w' => e = .returned (.tuple #[.bool (begL b).1, .int .i64 ((begL b).2 : Int)]) ∧ Fr No w w' := by
  obtain ⟨ad, rfl, c0⟩ := hA.at_ 0 (by omega)
  rw [show ad.add 0 = ad from rfl] at c0
  obtain ⟨k, o, rfl⟩ := spot c0
  have HA := Lib.hid hA
  have HT := Lib.hid hT
  have HL := Lib.hid hl
  have hF1 : Fr No w (w.alloc (.cells #[.int .u8 70, .int .u8 76] 5 (0, 0))) := (Fr.refl _ _).alloc _
  have HF1 := Lib.hid hF1
  have HH := Lib.hid (lit_reads w [0x46, 0x4C] _ rfl (0, 0))
  have HAG := Lib.hid (agree (some ⟨k, o, none⟩) (some ⟨w.heap.size, 0, none⟩) n 2 c 2 b [0x46, 0x4C] _ hl rfl hc (Nat.le_refl _) hn (by omega) (hA.fr hF1 (fun _ _ _ q => q)) HH.out)
  clear c0 hA hT hF1
  by_cases g1 : agr b [0x46, 0x4C] = false
  · have HB := Lib.hid (show begL b = (false, 0) by unfold begL; rw [if_pos g1])
    rw [g1] at HAG
    clear hl g1
    go_enter Tryd.func37, Tryd.ntmps37
    go_wp2_with fail
    refine HAG.out.mono ?_
    rintro e w1 ⟨rfl, k1, rfl⟩
    go_wp2
    go_ret2
    exact ⟨by rw [HB.out]; rfl, HF1.out.drewN _⟩
  have g1t : agr b [0x46, 0x4C] = true := by simpa using g1
  by_cases g2 : n < 5
  · have HB := Lib.hid (show begL b = (true, 0) by unfold begL; rw [if_neg g1, if_pos (by omega)])
    rw [g1t] at HAG
    have d2 : decide ((n : Int) < 5) = true := decide_eq_true (by omega)
    clear hl g1
    go_enter Tryd.func37, Tryd.ntmps37
    go_wp2_with fail
    refine HAG.out.mono ?_
    rintro e w1 ⟨rfl, k1, rfl⟩
    go_wp2
    go_ret2
    exact ⟨by rw [HB.out]; rfl, HF1.out.drewN _⟩
  have d2 : decide ((n : Int) < 5) = false := decide_eq_false (by omega)
  have d2' : decide (n < 5) = false := decide_eq_false g2
  have HB2 := Lib.hid (show begL b = if 65536 < lenL b ∨ agr (b.drop 5) (sumB (b.take 5)) = false then (false, 0) else if b.length < 9 + lenL b then (true, 0) else if agr (b.drop (9 + lenL b)) (sumB (midL b)) = false then (false, 0) else if b.length < lenL b + 13 then (true, 0) else (true, lenL b + 13) by
    unfold begL; rw [if_neg g1, if_neg (by omega)])
  have h5c : 5 ≤ c := by omega
  have h5ci : (5 : Int) ≤ (c : Int) := by omega
  have h5n : 5 ≤ n := by omega
  have h5ni : (5 : Int) ≤ (n : Int) := by omega
  rw [g1t] at HAG
  clear hl g1 g1t
  obtain ⟨m, hm⟩ : ∃ m, lenL b = m := ⟨_, rfl⟩
  have HM := Lib.hid hm
  have hml := lenL_lt b
  rw [hm] at HB2 hml
  go_enter Tryd.func37, Tryd.ntmps37
  go_wp2_with fail
  refine HAG.out.mono ?_
  rintro e w1 ⟨rfl, k1, rfl⟩
  generalize hw2 : (w.alloc (.cells #[.int .u8 70, .int .u8 76] 5 (0, 0))).drewN k1 = w2
  have HF2 := Lib.hid (show Fr No w w2 by rw [← hw2]; exact HF1.out.drewN _)
  clear hw2 HF1 HH HAG
  have HLE := Lib.hid (slength (some ⟨k, o, none⟩) n c b w2 HL.out (by omega) (HA.out.fr HF2.out (fun _ _ _ q => q)))
  rw [hm] at HLE
  clear hm
  go_wp2_with fail
  refine HLE.out.mono ?_
  rintro e w5 ⟨rfl, hF5⟩
  have HF5 := Lib.hid (HF2.out.then_ hF5)
  have HS1 := Lib.hid (sumBytes (some ⟨k, o, none⟩) 5 5 (b.take 5) w5 (by rw [List.length_take, HL.out]; omega) (by omega) (BR.take (HA.out.fr HF5.out (fun _ _ _ q => q)) 5) (HT.out.no HF5.out))
  obtain ⟨s0, s1, s2, s3, hsv, _, _, _, _, _⟩ := four_cells (crcL (b.take 5))
  have HSV := Lib.hid (show bv (sumB (b.take 5)) = _ from hsv)
  rw [show bv (sumB (b.take 5)) = _ from hsv] at HS1
  clear hsv hF5 HF2 HLE
  go_wp2_with fail
  refine HS1.out.mono ?_
  rintro e w6 ⟨rfl, hF6⟩
  obtain ⟨w7, hw7⟩ : ∃ w7, w6.alloc (.cells #[.int .u8 (s0 : Int), .int .u8 (s1 : Int), .int .u8 (s2 : Int), .int .u8 (s3 : Int)] 57 (0, 0)) = w7 := ⟨_, rfl⟩
  have HF7 := Lib.hid (show Fr No w w7 by rw [← hw7]; exact (HF5.out.then_ hF6).alloc _)
  obtain ⟨b1, hb1⟩ : ∃ b1, w6.heap.size = b1 := ⟨_, rfl⟩
  have HX7 := Lib.hid (show Bk w7 b1 57 (bv (sumB (b.take 5))) by rw [← hw7, ← hb1, HSV.out]; exact Bk.new _ _ _)
  clear hF6 HS1 HF5
  go_upto_region 8 with (fail)
  clear hw7 hb1
  by_cases k1 : 65536 < m
  · have e1 : decide ((65536 : Int) < (m : Int)) = true := decide_eq_true (by omega)
    have e1' : decide (65536 < m) = true := decide_eq_true k1
    have HB := Lib.hid (show begL b = (false, 0) by rw [HB2.out, if_pos (.inl k1)])
    clear k1 HB2
    go_quiet (fail)
    go_wp2
    go_ret2
    exact ⟨by rw [HB.out]; rfl, HF7.out.drewN _⟩
  have e1 : decide ((65536 : Int) < (m : Int)) = false := decide_eq_false (by omega)
  have e1' : decide (65536 < m) = false := decide_eq_false k1
  by_cases h5 : c = 5
  · obtain rfl : n = 5 := by omega
    subst h5
    have hd : b.drop 5 = [] := List.drop_of_length_le (by have := HL.out; omega)
    have HB := Lib.hid (show begL b = (true, 0) by
      rw [HB2.out, if_neg (by
        rintro (q | q)
        · omega
        · rw [hd] at q
          simp [agr] at q), if_pos (by have := HL.out; omega)])
    have HAG := Lib.hid (fun N => agree (some ⟨k, o, none⟩) (some ⟨b1, 0, none⟩) 0 4 0 4 [] (sumB (b.take 5)) (w7.drewN N) rfl rfl (Nat.le_refl _) (Nat.le_refl _) (by omega) (by omega) (BR.nil _ _ _) (BR.of_block' (HX7.out.fr ((Fr.refl No w7).drewN N) id)))
    rw [show agr [] (sumB (b.take 5)) = true by simp [agr]] at HAG
    have d9 : decide ((5 : Int) < 9 + (m : Int)) = true := decide_eq_true (by omega)
    have hw9 : IntKind.i64.wrap (9 + (m : Int)) = 9 + (m : Int) := IntWalk.i64_in _ (by omega)
    clear hd HB2 k1
    go_quiet (first | (go_at_call 41; refine Calls.quiet_of (HAG.out _)))
    go_wp2
    go_ret2
    exact ⟨by rw [HB.out]; rfl, HF7.out.drewN _⟩
  have HAG := Lib.hid (fun N => agree (some ⟨k, o + 5, none⟩) (some ⟨b1, 0, none⟩) (n - 5) 4 (c - 5) 4 (b.drop 5) (sumB (b.take 5)) (w7.drewN N) (by rw [List.length_drop, HL.out]) rfl (by omega) (Nat.le_refl _) (by omega) (by omega) (by
    have := BR.sub ((HA.out.fr HF7.out (fun _ _ _ q => q)).fr ((Fr.refl No w7).drewN N) (fun _ _ _ q => q)) 5 (n - 5)
    rwa [List.take_of_length_le (by rw [List.length_drop, HL.out]; omega)] at this) (BR.of_block' (HX7.out.fr ((Fr.refl No w7).drewN N) id)))
  have hw9 : IntKind.i64.wrap (9 + (m : Int)) = 9 + (m : Int) := IntWalk.i64_in _ (by omega)
  by_cases g3 : agr (b.drop 5) (sumB (b.take 5)) = false
  · have HB := Lib.hid (show begL b = (false, 0) by rw [HB2.out, if_pos (.inr g3)])
    rw [g3] at HAG
    clear k1 HB2 g3
    go_quiet (first | (go_at_call 41; refine Calls.quiet_of (HAG.out _)))
    go_wp2
    go_ret2
    exact ⟨by rw [HB.out]; rfl, HF7.out.drewN _⟩
  have g3t : agr (b.drop 5) (sumB (b.take 5)) = true := by simpa using g3
  rw [g3t] at HAG
  have HB3 := Lib.hid (show begL b = if b.length < 9 + m then (true, 0) else if agr (b.drop (9 + m)) (sumB (midL b)) = false then (false, 0) else if b.length < m + 13 then (true, 0) else (true, m + 13) by
    rw [HB2.out, if_neg (by rintro (q | q); exact k1 q; exact g3 q)])
  clear g3 g3t HB2
  by_cases g4 : n < 9 + m
  · have HB := Lib.hid (show begL b = (true, 0) by rw [HB3.out, if_pos (by have := HL.out; omega)])
    have d9 : decide ((n : Int) < 9 + (m : Int)) = true := decide_eq_true (by omega)
    clear k1 HB3
    go_quiet (first | (go_at_call 41; refine Calls.quiet_of (HAG.out _)))
    go_wp2
    go_ret2
    exact ⟨by rw [HB.out]; rfl, HF7.out.drewN _⟩
  have d9 : decide ((n : Int) < 9 + (m : Int)) = false := decide_eq_false (by omega)
  have HB4 := Lib.hid (show begL b = if agr (b.drop (9 + m)) (sumB (midL b)) = false then (false, 0) else if b.length < m + 13 then (true, 0) else (true, m + 13) by
    rw [HB3.out, if_neg (by have := HL.out; omega)])
  have hmc : (9 : Int) + (m : Int) ≤ (c : Int) := by omega
  have hmcn : 9 + m ≤ c := by omega
  have hmn : (9 : Int) + (m : Int) ≤ (n : Int) := by omega
  have hmnn : 9 + m ≤ n := by omega
  have hmc0 : (0 : Int) ≤ 9 + (m : Int) := by omega
  have hmc1 : (9 : Int) ≤ 9 + (m : Int) := by omega
  have htn : ((9 : Int) + (m : Int)).toNat = 9 + m := by omega
  have hmid : (midL b).length = m := by rw [midL_len (by rw [HM.out, HL.out]; omega), HM.out]
  have HMID := Lib.hid hmid
  clear HB3 g4 hmid
  go_quiet (first | (go_at_call 41; refine Calls.quiet_of (HAG.out _)))
  generalize hw8 : w7.drewN nq = w8
  have HF8 := Lib.hid (show Fr No w w8 by rw [← hw8]; exact HF7.out.drewN _)
  clear hw8 HF7 HX7 HAG
  have HMB := Lib.hid (show BR Any w8 (some ⟨k, o + 9, none⟩) (midL b) from by unfold midL; exact BR.sub (HA.out.fr HF8.out (fun _ _ _ q => q)) 9 (lenL b))
  have HS2 := Lib.hid (sumBytes (some ⟨k, o + 9, none⟩) m m (midL b) w8 HMID.out (by omega) HMB.out (HT.out.no HF8.out))
  have HS0 := Lib.hid (fun (h : m = 0) => sumBytes (some ⟨k, o, none⟩) 0 0 (midL b) w8 (by rw [HMID.out, h]) (by omega) (by rw [List.eq_nil_of_length_eq_zero (show (midL b).length = 0 by rw [HMID.out, h])]; exact BR.nil _ _ _) (HT.out.no HF8.out))
  obtain ⟨t0, t1, t2, t3, hsv, _, _, _, _, _⟩ := four_cells (crcL (midL b))
  have HSW := Lib.hid (show bv (sumB (midL b)) = _ from hsv)
  rw [show bv (sumB (midL b)) = _ from hsv] at HS2 HS0
  clear hsv HMB
  have HN := Lib.hid HL.out
  by_cases hm0 : m = 0
  case' pos =>
    go_wp2_with fail
    refine (HS0.out hm0).mono ?_
    clear hm0
    generalize hA40 : Value.slice (some ⟨k, o, none⟩) 0 0 = A40
    clear hA40
  case' neg =>
    go_wp2_with fail
    refine HS2.out.mono ?_
    generalize hA40 : Value.slice (some ⟨k, o + 9, none⟩) m m = A40
    clear hA40 hm0
  all_goals
    clear HS2 HS0
    rintro e w9 ⟨rfl, hF9⟩
    obtain ⟨w10, hw10⟩ : ∃ w10, w9.alloc (.cells #[.int .u8 (t0 : Int), .int .u8 (t1 : Int), .int .u8 (t2 : Int), .int .u8 (t3 : Int)] 57 (0, 0)) = w10 := ⟨_, rfl⟩
    have HF10 := Lib.hid (show Fr No w w10 by rw [← hw10]; exact (HF8.out.then_ hF9).alloc _)
    obtain ⟨b2, hb2⟩ : ∃ b2, w9.heap.size = b2 := ⟨_, rfl⟩
    have HX10 := Lib.hid (show Bk w10 b2 57 (bv (sumB (midL b))) by rw [← hw10, ← hb2, HSW.out]; exact Bk.new _ _ _)
    clear hF9 HF8
    go_upto_region 13 with (fail)
    clear hw10 hb2
    have hw13 : IntKind.i64.wrap ((m : Int) + 13) = (m : Int) + 13 := IntWalk.i64_in _ (by omega)
    by_cases hce : c = 9 + m
    · obtain rfl : n = 9 + m := by omega
      have hd : b.drop (9 + m) = [] := List.drop_of_length_le (by have := HN.out; omega)
      have HB := Lib.hid (show begL b = (true, 0) by
        rw [HB4.out, if_neg (by
          intro q
          rw [hd] at q
          simp [agr] at q), if_pos (by have := HN.out; omega)])
      have HAG := Lib.hid (fun N => agree (some ⟨k, o, none⟩) (some ⟨b2, 0, none⟩) 0 4 0 4 [] (sumB (midL b)) (w10.drewN N) rfl rfl (Nat.le_refl _) (Nat.le_refl _) (by omega) (by omega) (BR.nil _ _ _) (BR.of_block' (HX10.out.fr ((Fr.refl No w10).drewN N) id)))
      rw [show agr [] (sumB (midL b)) = true by simp [agr]] at HAG
      have d13 : decide ((9 : Int) + (m : Int) < (m : Int) + 13) = true := decide_eq_true (by omega)
      clear hd HB4 k1
      go_quiet (first | (go_at_call 41; refine Calls.quiet_of (HAG.out _)))
      go_wp2
      go_ret2
      exact ⟨by rw [HB.out]; rfl, HF10.out.drewN _⟩
    · have HAG := Lib.hid (fun N => agree (some ⟨k, o + (9 + m), none⟩) (some ⟨b2, 0, none⟩) (n - (9 + m)) 4 (c - (9 + m)) 4 (b.drop (9 + m)) (sumB (midL b)) (w10.drewN N) (by rw [List.length_drop, HN.out]) rfl (by omega) (Nat.le_refl _) (by omega) (by omega) (by
        have := BR.sub ((HA.out.fr HF10.out (fun _ _ _ q => q)).fr ((Fr.refl No w10).drewN N) (fun _ _ _ q => q)) (9 + m) (n - (9 + m))
        rwa [List.take_of_length_le (by rw [List.length_drop, HN.out]; omega)] at this) (BR.of_block' (HX10.out.fr ((Fr.refl No w10).drewN N) id)))
      have hce1 : ¬ (c - (9 + m) = 0) := by omega
      by_cases g5 : agr (b.drop (9 + m)) (sumB (midL b)) = false
      · have HB := Lib.hid (show begL b = (false, 0) by rw [HB4.out, if_pos g5])
        rw [g5] at HAG
        clear k1 HB4 g5
        go_quiet (first | (go_at_call 41; refine Calls.quiet_of (HAG.out _)))
        go_wp2
        go_ret2
        exact ⟨by rw [HB.out]; rfl, HF10.out.drewN _⟩
      have g5t : agr (b.drop (9 + m)) (sumB (midL b)) = true := by simpa using g5
      rw [g5t] at HAG
      by_cases g6 : n < m + 13
      · have HB := Lib.hid (show begL b = (true, 0) by rw [HB4.out, if_neg g5, if_pos (by rw [HN.out]; exact g6)])
        have d13 : decide ((n : Int) < (m : Int) + 13) = true := decide_eq_true (by omega)
        clear k1 HB4 g5 g5t
        go_quiet (first | (go_at_call 41; refine Calls.quiet_of (HAG.out _)))
        go_wp2
        go_ret2
        exact ⟨by rw [HB.out]; rfl, HF10.out.drewN _⟩
      · have HB := Lib.hid (show begL b = (true, m + 13) by rw [HB4.out, if_neg g5, if_neg (by rw [HN.out]; exact g6)])
        have d13 : decide ((n : Int) < (m : Int) + 13) = false := decide_eq_false (by omega)
        clear k1 HB4 g5 g5t
        go_quiet (first | (go_at_call 41; refine Calls.quiet_of (HAG.out _)))
        go_wp2
        go_ret2
        exact ⟨by rw [HB.out]; rfl, HF10.out.drewN _⟩
end Go.Proofs.YtfpjdgkooikeoaaDoor.Sl
