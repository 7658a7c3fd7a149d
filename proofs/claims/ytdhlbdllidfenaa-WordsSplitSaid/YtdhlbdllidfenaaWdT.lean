/- Words: a word in quotes, as the reference reads it, walked. Conditions: none. -/
import Derived.Test.YtdhlbdllidfenaaWdR
namespace Go.Proofs.Ytdhlbdllidfenaa.Wd
open Go.RowKit Go.Proofs.Ytdhlbdllidfenaa.Mem
set_option linter.unusedVariables false
set_option linter.unusedSimpArgs false
set_option maxHeartbeats 8000000 in
set_option maxRecDepth 100000 in
theorem rQuoted (s : ByteArray) (fr : Nat) (hf : fr < s.size) (hs : s.size ≤ 1000000000000) (w : World) : Calls Try.prog 27 #[.string s, .int .i64 (fr : Int)] w fun e w' => e = quoR (quoW (bs s) fr (fr + 1) []) ∧ Fr No w w' := by
  obtain ⟨f1, hf1⟩ : ∃ j, fr + 1 = j := ⟨_, rfl⟩
  rw [hf1]
  have wf1 : IntKind.i64.wrap ((fr : Int) + 1) = (f1 : Int) := by rw [IntWalk.i64_in _ (by omega)]; omega
  have hf1s : f1 ≤ s.size := by omega
  clear hf1
  obtain ⟨R, hR⟩ : ∃ R, quoW (bs s) fr f1 [] = R := ⟨_, rfl⟩
  have HR := Lib.hid hR
  rw [hR]
  clear hR
  go_enter Try.func27, Try.ntmps27
  go_wp2
  go_loopw [7, 8] (fun o x wr => ∃ (i n : Nat) (A : Option Addr) (c : Nat) (rb : Option Nat) (acc : List UInt8), o = .slice A n c ∧ x = .int .i64 (i : Int) ∧ i ≤ s.size ∧ n ≤ i ∧ Hid (acc.length = n) ∧ Hid (quoW (bs s) fr i acc = R) ∧ Hid (Buf w wr rb (.slice A n c) acc)) (fun _ x _ => s.size - (intOf x).toNat)
  case atStart => exact ⟨f1, 0, none, 0, none, [], rfl, rfl, hf1s, Nat.zero_le _, rfl, HR.out, Row.nil _ _ _, Fr.refl _ _, fun k hk => by cases hk⟩
  case round =>
    clear HR
    obtain ⟨i, n, A, c, rb, acc, rfl, rfl, hi, hn, HL, HQ, HB⟩ := hrel
    by_cases hlt : i < s.size
    · have hii : (i : Int) < (s.size : Int) := by omega
      have d0 : decide ((s.size : Int) ≤ (i : Int)) = false := decide_eq_false (by omega)
      have d0' : decide (s.size ≤ i) = false := decide_eq_false (by omega)
      obtain ⟨j1, hj1⟩ : ∃ j, i + 1 = j := ⟨_, rfl⟩
      have w1 : IntKind.i64.wrap ((i : Int) + 1) = (j1 : Int) := by rw [IntWalk.i64_in _ (by omega)]; omega
      obtain ⟨ch, hc⟩ : ∃ c, s[i]'hlt = c := ⟨_, rfl⟩
      have hbi : i < (bs s).length := by rw [bs_len]; exact hlt
      have hbc : (bs s)[i]'hbi = ch := by rw [bs_get s i hlt, hc]
      have HRW := Lib.hid (show ∀ W, Fr No wr W → Row W 5 1 rb (.slice A n c) n (bv acc) from fun W hW => by
        have := (HB.out.quiet hW).1
        rw [HL.out] at this
        exact this)
      by_cases q1 : ch.toNat = 34
      · have HE := Lib.hid (show R = if isBare acc = true then .bad fr 161 else .ok acc j1 by rw [← HQ.out, quo_quote hbi (by rw [hbc]; exact q1), hj1])
        have e1 : ((ch.toNat : Int) == 34) = true := by rw [beq_iff_eq]; omega
        obtain ⟨X, hX⟩ : ∃ X : ByteArray, (⟨acc.toArray⟩ : ByteArray) = X := ⟨_, rfl⟩
        have cv := HB.out.conv HL.out
        have cv2 := fun W hW => (HB.out.quiet (w1 := W) hW).conv HL.out
        have hXs : X.size ≤ s.size := by rw [← hX, ← bs_len, bs_of, HL.out]; omega
        have HPL := Lib.hid (fun W => rIsBare X (by omega) W)
        rw [← hX, bs_of, hX] at HPL
        rw [hX] at cv cv2
        have HF := Lib.hid HB.out.2.1
        have CV2 := Lib.hid cv2
        clear q1 hbc hbi HQ HB HL HRW cv2 hXs
        cases hbare : isBare acc with
        | true =>
          rw [hbare] at HE HPL
          have HE2 := Lib.hid (show R = .bad fr 161 by rw [HE.out, if_pos rfl])
          clear hbare HE hX
          go_wp2_with fail
          refine (HPL.out _).mono ?_
          rintro e w3 ⟨rfl, hF3⟩
          go_wp2
          go_ret3
          exact ⟨by rw [HE2.out]; rfl, HF.out.then_ hF3⟩
        | false =>
          rw [hbare] at HE HPL
          have HE2 := Lib.hid (show R = .ok acc j1 by rw [HE.out, if_neg (by simp)])
          have HXX := Lib.hid hX
          clear hbare HE hX
          go_wp2_with fail
          refine (HPL.out _).mono ?_
          rintro e w3 ⟨rfl, hF3⟩
          have cv3 := CV2.out w3 hF3
          have HF3 := Lib.hid (HF.out.then_ hF3)
          clear hF3 CV2 cv
          go_wp2
          go_ret3
          exact ⟨by rw [HE2.out, ← HXX.out]; rfl, HF3.out⟩
      have e1 : ((ch.toNat : Int) == 34) = false := by rw [beq_eq_false_iff_ne]; omega
      by_cases q2 : ch.toNat < 32 ∨ 126 < ch.toNat
      · have HE := Lib.hid (show R = .bad i 161 by rw [← HQ.out, quo_byte hbi (by rw [hbc]; exact q2)])
        have hd : (decide ((ch.toNat : Int) < 32) = true) ∨ (decide ((ch.toNat : Int) < 32) = false ∧ decide (126 < (ch.toNat : Int)) = true) := by
          simp only [decide_eq_true_eq, decide_eq_false_iff_not]
          omega
        have HF := Lib.hid HB.out.2.1
        clear q1 q2 hbc hbi HRW HB HQ HL
        rcases hd with e2 | ⟨e2, e3⟩
        all_goals
          go_wp2
          go_ret3
          exact ⟨by rw [HE.out]; rfl, HF.out⟩
      have e2 : decide ((ch.toNat : Int) < 32) = false := decide_eq_false (by omega)
      have e3 : decide (126 < (ch.toNat : Int)) = false := decide_eq_false (by omega)
      by_cases q4 : ch.toNat = 92
      · have e4 : ((ch.toNat : Int) != 92) = false := by rw [bne_eq_false_iff_eq]; omega
        have HX := Lib.hid (show R = match escW (bs s) i with | .bad p c => .bad p c | .ok v e => quoW (bs s) fr e (acc ++ [v]) by rw [← HQ.out, quo_esc hbi (by rw [hbc]; exact q4)]; rfl)
        obtain ⟨j2, hj2⟩ : ∃ j, i + 2 = j := ⟨_, rfl⟩
        obtain ⟨j3, hj3⟩ : ∃ j, i + 3 = j := ⟨_, rfl⟩
        obtain ⟨j4, hj4⟩ : ∃ j, i + 4 = j := ⟨_, rfl⟩
        have w2 : IntKind.i64.wrap ((i : Int) + 2) = (j2 : Int) := by rw [IntWalk.i64_in _ (by omega)]; omega
        have w4 : IntKind.i64.wrap ((i : Int) + 4) = (j4 : Int) := by rw [IntWalk.i64_in _ (by omega)]; omega
        have HESC := Lib.hid (show escW (bs s) i = match (bs s)[j1]? with
          | none => .bad (bs s).length 162
          | some c =>
            if c.toNat = 34 ∨ c.toNat = 92 then .ok c j2
            else if c.toNat ≠ 120 then .bad j1 161
            else match (bs s)[j2]? with
              | none => .bad (bs s).length 162
              | some a =>
                if digB a < 0 then .bad j2 161
                else match (bs s)[j3]? with
                  | none => .bad (bs s).length 162
                  | some b =>
                    if digB b < 0 then .bad j3 161
                    else if 32 ≤ 16 * digB a + digB b ∧ 16 * digB a + digB b ≤ 126 then .bad i 161
                    else .ok (UInt8.ofNat (16 * digB a + digB b).toNat) j4 by rw [← hj1, ← hj2, ← hj3, ← hj4]; rfl)
        have HF := Lib.hid HB.out.2.1
        clear q1 q2 q4 hbc hbi HQ
        by_cases h1 : j1 < s.size
        · obtain ⟨dh, hdh⟩ : ∃ c, s[j1]'h1 = c := ⟨_, rfl⟩
          have d1 : decide ((s.size : Int) ≤ (j1 : Int)) = false := decide_eq_false (by omega)
          have d1' : decide (s.size ≤ j1) = false := decide_eq_false (by omega)
          have h1i : (j1 : Int) < (s.size : Int) := by omega
          by_cases k1 : dh.toNat = 34 ∨ dh.toNat = 92
          · have HE := Lib.hid (show quoW (bs s) fr j2 (acc ++ [dh]) = R by rw [HX.out, HESC.out, bs_get?, dif_pos h1, hdh]; dsimp only; rw [if_pos k1])
            have k3 : (((dh.toNat : Int) == 34) = true) ∨ (((dh.toNat : Int) == 34) = false ∧ ((dh.toNat : Int) == 92) = true) := by
              simp only [beq_iff_eq, beq_eq_false_iff_ne]
              omega
            have hj2s : j2 ≤ s.size ∧ n + 1 ≤ j2 ∧ i < j2 := by omega
            clear hj1 hj2 hj3 hj4 k1 HESC HX
            rcases k3 with k3 | ⟨k3, k4⟩
            all_goals
              go_wp2_with (at_builtin; refine wl_append _ rfl (.tmp 68) (.tmp 73) 43 rfl 5 _ 1 1 Try.underlying43 infoU8 rfl (by decide) rb _ n (bv acc) rfl (HRW.out _ ((Fr.refl No wr).alloc _)) (some ⟨wr.heap.size, 0, none⟩) 1 1 (bv [dh]) rfl rfl (fun _ => newCells wr (bv [dh])) (bv_one _) (by unfold maxLen; omega) (by omega) ?_; intro A6 c6 w6 rb6 hrow6 hF6 hnb6)
              have HB6 := Lib.hid ((HB.out.quiet ((Fr.refl No wr).alloc _)).grow (k := [dh]) hrow6 HL.out rfl hF6 hnb6)
              have HL6 := Lib.hid (show (acc ++ [dh]).length = n + 1 by rw [List.length_append, HL.out]; rfl)
              clear hrow6 hF6 hnb6 HB HL HRW
              go_wp2
              go_roundw
              case rel => exact ⟨j2, n + 1, A6, c6, rb6, _, rfl, rfl, hj2s.1, hj2s.2.1, HL6, HE, HB6⟩
              case measure => simp [intOf]; omega
          have k3 : ((dh.toNat : Int) == 34) = false := by rw [beq_eq_false_iff_ne]; omega
          have k4 : ((dh.toNat : Int) == 92) = false := by rw [beq_eq_false_iff_ne]; omega
          by_cases k2 : dh.toNat ≠ 120
          · have HE := Lib.hid (show R = .bad j1 161 by rw [HX.out, HESC.out, bs_get?, dif_pos h1, hdh]; dsimp only; rw [if_neg k1, if_pos k2])
            have k5 : ((dh.toNat : Int) != 120) = true := by rw [bne_iff_ne]; omega
            clear hj1 hj2 hj3 hj4 k1 k2 HESC HX
            go_wp2
            go_ret3
            exact ⟨by rw [HE.out]; rfl, HF.out⟩
          have k5 : ((dh.toNat : Int) != 120) = false := by rw [bne_eq_false_iff_eq]; omega
          have HE := Lib.hid (show escW (bs s) i = match (bs s)[j2]? with
              | none => .bad (bs s).length 162
              | some a =>
                if digB a < 0 then .bad j2 161
                else match (bs s)[j3]? with
                  | none => .bad (bs s).length 162
                  | some b =>
                    if digB b < 0 then .bad j3 161
                    else if 32 ≤ 16 * digB a + digB b ∧ 16 * digB a + digB b ≤ 126 then .bad i 161
                    else .ok (UInt8.ofNat (16 * digB a + digB b).toNat) j4 by rw [HESC.out, bs_get?, dif_pos h1, hdh]; dsimp only; rw [if_neg k1, if_neg k2])
          have b12 : j1 + 1 = j2 := by omega
          have b23 : j2 + 1 = j3 := by omega
          have b34 : j3 + 1 = j4 := by omega
          have hni4 : n + 1 ≤ j4 ∧ i < j4 := by omega
          have HBJ := Lib.hid (And.intro b12 (And.intro b23 (And.intro b34 hni4)))
          have w23 : IntKind.i64.wrap ((j2 : Int) + 1) = (j3 : Int) := by rw [IntWalk.i64_in _ (by omega)]; omega
          have w34 : IntKind.i64.wrap ((j3 : Int) + 1) = (j4 : Int) := by rw [IntWalk.i64_in _ (by omega)]; omega
          clear hj1 hj2 hj3 hj4 k1 k2 HESC b12 b23 b34 hni4
          go_wp2
          go_loopw [10, 11] (fun v k wq => ((k = .int .i64 (j2 : Int) ∧ v = .int .i64 0) ∨ (∃ a, Hid ((bs s)[j2]? = some a) ∧ 0 ≤ digB a ∧ k = .int .i64 (j3 : Int) ∧ v = .int .i64 (digB a)) ∨ (∃ a b, Hid ((bs s)[j2]? = some a) ∧ Hid ((bs s)[j3]? = some b) ∧ 0 ≤ digB a ∧ 0 ≤ digB b ∧ k = .int .i64 (j4 : Int) ∧ v = .int .i64 (16 * digB a + digB b))) ∧ wq = wr) (fun _ k _ => j4 - (intOf k).toNat)
          case atStart => exact ⟨.inl ⟨rfl, rfl⟩, rfl⟩
          case round =>
            obtain ⟨h, rfl⟩ := hrel
            rcases h with ⟨rfl, rfl⟩ | ⟨a, HA, ha, rfl, rfl⟩ | ⟨a, b, HA, HB2, ha, hb, rfl, rfl⟩
            · have d2 : decide ((j2 : Int) < (j4 : Int)) = true := decide_eq_true (by have := HBJ.out; omega)
              have d2' : decide (j2 < j4) = true := decide_eq_true (by have := HBJ.out; omega)
              by_cases h2 : j2 < s.size
              · obtain ⟨a, ha⟩ : ∃ a, s[j2]'h2 = a := ⟨_, rfl⟩
                have HA := Lib.hid (show (bs s)[j2]? = some a by rw [bs_get?, dif_pos h2, ha])
                have d3 : decide ((s.size : Int) ≤ (j2 : Int)) = false := decide_eq_false (by omega)
                have d3' : decide (s.size ≤ j2) = false := decide_eq_false (by omega)
                have h2i : (j2 : Int) < (s.size : Int) := by omega
                have HD := Lib.hid (fun W => rDigit a W)
                have hdl := digB_lt a
                by_cases hneg : digB a < 0
                · have d4 : decide (digB a < 0) = true := decide_eq_true hneg
                  have HR2 := Lib.hid (show R = .bad j2 161 by rw [HX.out, HE.out, HA.out]; dsimp only; rw [if_pos hneg])
                  clear hneg HE hdl
                  generalize digB a = D at *
                  go_wp2_with fail
                  refine (HD.out _).mono ?_
                  rintro e w' ⟨rfl, rfl⟩
                  go_wp2
                  go_ret3
                  exact ⟨by rw [HR2.out]; rfl, HF.out⟩
                · have d4 : decide (digB a < 0) = false := decide_eq_false hneg
                  have hw : IntKind.i64.wrap (IntKind.i64.wrap (16 * 0) + digB a) = digB a := by
                    rw [show IntKind.i64.wrap (16 * 0) = 0 from IntWalk.i64_in _ (by omega), Int.zero_add]; exact IntWalk.i64_in _ (by omega)
                  have hw' : IntKind.i64.wrap (digB a) = digB a := IntWalk.i64_in _ (by omega)
                  obtain ⟨D, hD⟩ : ∃ D, digB a = D := ⟨_, rfl⟩
                  have HDD := Lib.hid hD
                  have h0 : 0 ≤ D := by omega
                  rw [hD] at HD d4 hw hw'
                  clear hneg hdl hD
                  go_wp2_with fail
                  refine (HD.out _).mono ?_
                  rintro e w' ⟨rfl, rfl⟩
                  go_wp2
                  go_roundw
                  case rel => exact ⟨.inr (.inl ⟨a, HA, by rw [HDD.out]; exact h0, rfl, by rw [HDD.out]⟩), trivial⟩
                  case measure => first | (simp [intOf]; done) | (simp [intOf]; have := HBJ.out; omega)
              · have HR2 := Lib.hid (show R = .bad s.size 162 by rw [HX.out, HE.out, bs_get?, dif_neg h2]; dsimp only; rw [bs_len])
                have d3 : decide ((s.size : Int) ≤ (j2 : Int)) = true := decide_eq_true (by omega)
                have d3' : decide (s.size ≤ j2) = true := decide_eq_true (by omega)
                clear HE
                go_wp2
                go_ret3
                exact ⟨by rw [HR2.out]; rfl, HF.out⟩
            · have d2 : decide ((j3 : Int) < (j4 : Int)) = true := decide_eq_true (by have := HBJ.out; omega)
              have d2' : decide (j3 < j4) = true := decide_eq_true (by have := HBJ.out; omega)
              by_cases h2 : j3 < s.size
              · obtain ⟨b, hb⟩ : ∃ b, s[j3]'h2 = b := ⟨_, rfl⟩
                have HB2 := Lib.hid (show (bs s)[j3]? = some b by rw [bs_get?, dif_pos h2, hb])
                have d3 : decide ((s.size : Int) ≤ (j3 : Int)) = false := decide_eq_false (by omega)
                have d3' : decide (s.size ≤ j3) = false := decide_eq_false (by omega)
                have h2i : (j3 : Int) < (s.size : Int) := by omega
                have HD := Lib.hid (fun W => rDigit b W)
                have hdl := digB_lt b
                have hdla := digB_lt a
                by_cases hneg : digB b < 0
                · have d4 : decide (digB b < 0) = true := decide_eq_true hneg
                  have HR2 := Lib.hid (show R = .bad j3 161 by rw [HX.out, HE.out, HA.out]; dsimp only; rw [if_neg (by omega), HB2.out]; dsimp only; rw [if_pos hneg])
                  clear hneg HE hdl hdla ha
                  generalize digB b = D at *
                  generalize digB a = D0 at *
                  go_wp2_with fail
                  refine (HD.out _).mono ?_
                  rintro e w' ⟨rfl, rfl⟩
                  go_wp2
                  go_ret3
                  exact ⟨by rw [HR2.out]; rfl, HF.out⟩
                · have d4 : decide (digB b < 0) = false := decide_eq_false hneg
                  have hw0 : IntKind.i64.wrap (16 * digB a) = 16 * digB a := IntWalk.i64_in _ (by omega)
                  have hw : IntKind.i64.wrap (16 * digB a + digB b) = 16 * digB a + digB b := IntWalk.i64_in _ (by omega)
                  obtain ⟨D, hD⟩ : ∃ D, digB b = D := ⟨_, rfl⟩
                  obtain ⟨D0, hD0⟩ : ∃ D0, digB a = D0 := ⟨_, rfl⟩
                  have HDD := Lib.hid hD
                  have HDD0 := Lib.hid hD0
                  have h0 : 0 ≤ D := by omega
                  have h00 : 0 ≤ D0 := by omega
                  rw [hD] at HD d4 hw
                  rw [hD0] at hw0 hw ⊢
                  clear hneg hdl hdla hD hD0 ha
                  go_wp2_with fail
                  refine (HD.out _).mono ?_
                  rintro e w' ⟨rfl, rfl⟩
                  go_wp2
                  go_roundw
                  case rel => exact ⟨.inr (.inr ⟨a, b, HA, HB2, by rw [HDD0.out]; exact h00, by rw [HDD.out]; exact h0, rfl, by rw [HDD.out, HDD0.out]⟩), trivial⟩
                  case measure => first | (simp [intOf]; done) | (simp [intOf]; have := HBJ.out; omega)
              · have HR2 := Lib.hid (show R = .bad s.size 162 by rw [HX.out, HE.out, HA.out]; dsimp only; rw [if_neg (by omega), bs_get?, dif_neg h2]; dsimp only; rw [bs_len])
                have d3 : decide ((s.size : Int) ≤ (j3 : Int)) = true := decide_eq_true (by omega)
                have d3' : decide (s.size ≤ j3) = true := decide_eq_true (by omega)
                clear HE ha
                generalize digB a = D0 at *
                go_wp2
                go_ret3
                exact ⟨by rw [HR2.out]; rfl, HF.out⟩
            · have hdl := digB_lt b
              have hdla := digB_lt a
              have d2 : decide ((j4 : Int) < (j4 : Int)) = false := decide_eq_false (by omega)
              have d2' : decide (j4 < j4) = false := decide_eq_false (by omega)
              have hj4s : j4 ≤ s.size := by
                have h3 := HB2.out
                rw [bs_get?] at h3
                split at h3
                · rename_i h; have := HBJ.out; omega
                · cases h3
              have HE2 := Lib.hid (show escW (bs s) i = if 32 ≤ 16 * digB a + digB b ∧ 16 * digB a + digB b ≤ 126 then .bad i 161 else .ok (UInt8.ofNat (16 * digB a + digB b).toNat) j4 by
                rw [HE.out, HA.out]; dsimp only; rw [if_neg (by omega), HB2.out]; dsimp only; rw [if_neg (by omega)])
              have hv0 : 0 ≤ 16 * digB a + digB b := by omega
              have hv1 : 16 * digB a + digB b ≤ 255 := by omega
              generalize 16 * digB a + digB b = V at *
              clear HE ha hb hdl hdla HA HB2
              by_cases hin : 32 ≤ V ∧ V ≤ 126
              · have HR2 := Lib.hid (show R = .bad i 161 by rw [HX.out, HE2.out, if_pos hin])
                have e6 : decide (32 ≤ V) = true := decide_eq_true hin.1
                have e7 : decide (V ≤ 126) = true := decide_eq_true hin.2
                clear hin HE2
                go_wp2
                go_ret3
                exact ⟨by rw [HR2.out]; rfl, HF.out⟩
              · have e6 : decide (32 ≤ V) = false ∨ (decide (32 ≤ V) = true ∧ decide (V ≤ 126) = false) := by
                  simp only [decide_eq_true_eq, decide_eq_false_iff_not]
                  omega
                have HQ2 := Lib.hid (show quoW (bs s) fr j4 (acc ++ [UInt8.ofNat V.toNat]) = R by rw [HX.out, HE2.out, if_neg hin])
                have hvv := esc_val V hv0 hv1
                generalize UInt8.ofNat V.toNat = v at *
                subst hvv
                have hm : (v.toNat : Int) % 256 = (v.toNat : Int) := by omega
                clear hin HE2 HX hv0
                rcases e6 with e6 | ⟨e6, e7⟩
                all_goals
                  go_wp2_with (at_builtin; refine wl_append _ rfl (.tmp 116) (.tmp 119) 43 rfl 5 _ 1 1 Try.underlying43 infoU8 rfl (by decide) rb _ n (bv acc) rfl (HRW.out _ ((Fr.refl No wr).alloc _)) (some ⟨wr.heap.size, 0, none⟩) 1 1 (bv [v]) rfl rfl (fun _ => newCells wr (bv [v])) (bv_one _) (by unfold maxLen; omega) (by omega) ?_; intro A6 c6 w6 rb6 hrow6 hF6 hnb6)
                  have HB6 := Lib.hid ((HB.out.quiet ((Fr.refl No wr).alloc _)).grow (k := [v]) hrow6 HL.out rfl hF6 hnb6)
                  have HL6 := Lib.hid (show (acc ++ [v]).length = n + 1 by rw [List.length_append, HL.out]; rfl)
                  clear hrow6 hF6 hnb6 HB HL HRW
                  go_wp2
                  go_roundw
                  case rel => exact ⟨j4, n + 1, A6, c6, rb6, _, rfl, rfl, hj4s, HBJ.out.2.2.2.1, HL6, HQ2, HB6⟩
                  case measure => simp [intOf]; have := HBJ.out.2.2.2.2; omega
        · have HE := Lib.hid (show R = .bad s.size 162 by rw [HX.out, HESC.out, bs_get?, dif_neg h1]; dsimp only; rw [bs_len])
          have d1 : decide ((s.size : Int) ≤ (j1 : Int)) = true := decide_eq_true (by omega)
          have d1' : decide (s.size ≤ j1) = true := decide_eq_true (by omega)
          clear hj1 hj2 hj3 hj4 HESC HX
          go_wp2
          go_ret3
          exact ⟨by rw [HE.out]; rfl, HF.out⟩
      · have e4 : ((ch.toNat : Int) != 92) = true := by rw [bne_iff_ne]; omega
        have HE2 := Lib.hid (show quoW (bs s) fr j1 (acc ++ [ch]) = R by
          rw [← HQ.out, quo_other hbi (by rw [hbc]; exact q1) (by rw [hbc]; omega) (by rw [hbc]; omega) (by rw [hbc]; exact q4), hbc, hj1])
        clear hbc hbi HQ q1 q2 q4
        go_wp2_with (at_builtin; refine wl_append _ rfl (.tmp 43) (.tmp 45) 43 rfl 5 _ 1 1 Try.underlying43 infoU8 rfl (by decide) rb _ n (bv acc) rfl (HRW.out _ ((Fr.refl No wr).alloc _)) (some ⟨wr.heap.size, 0, none⟩) 1 1 (bv [ch]) rfl rfl (fun _ => newCells wr (bv [ch])) (bv_one _) (by unfold maxLen; omega) (by omega) ?_; intro A6 c6 w6 rb6 hrow6 hF6 hnb6)
        have HB6 := Lib.hid ((HB.out.quiet ((Fr.refl No wr).alloc _)).grow (k := [ch]) hrow6 HL.out rfl hF6 hnb6)
        have HL6 := Lib.hid (show (acc ++ [ch]).length = n + 1 by rw [List.length_append, HL.out]; rfl)
        clear hrow6 hF6 hnb6 HB HL HRW
        go_wp2
        go_roundw
        case rel => exact ⟨j1, n + 1, A6, c6, rb6, _, rfl, rfl, by omega, by omega, HL6, HE2, HB6⟩
        case measure => simp [intOf]; omega
    · have HE := Lib.hid (show R = .bad s.size 162 by rw [← HQ.out, quo_end (by rw [bs_len]; omega), bs_len])
      have d0 : decide ((s.size : Int) ≤ (i : Int)) = true := decide_eq_true (by omega)
      have d0' : decide (s.size ≤ i) = true := decide_eq_true (by omega)
      have HF := Lib.hid HB.out.2.1
      clear HQ HB HL
      go_wp2
      go_ret3
      exact ⟨by rw [HE.out]; rfl, HF.out⟩
end Go.Proofs.Ytdhlbdllidfenaa.Wd
