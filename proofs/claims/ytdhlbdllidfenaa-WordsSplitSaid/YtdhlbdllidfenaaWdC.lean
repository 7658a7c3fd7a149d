/- Words: a byte written with a backslash, walked. Conditions: none. -/
import Derived.Test.YtdhlbdllidfenaaWdB
namespace Go.Proofs.Ytdhlbdllidfenaa.Wd
open Go.RowKit Go.Proofs.Ytdhlbdllidfenaa.Mem
set_option linter.unusedVariables false
set_option linter.unusedSimpArgs false
def escR : ER → Ending
  | .bad p c => .returned (.tuple #[.int .u8 0, .int .i64 (p : Int), .int .i64 c])
  | .ok v e => .returned (.tuple #[.int .u8 (v.toNat : Int), .int .i64 (e : Int), .int .i64 0])
theorem bs_get? (s : ByteArray) (k : Nat) : (bs s)[k]? = if h : k < s.size then some (s[k]'h) else none := by
  by_cases h : k < s.size
  · rw [dif_pos h, List.getElem?_eq_getElem (by rw [bs_len]; exact h), bs_get s k h]
  · rw [dif_neg h, List.getElem?_eq_none (by rw [bs_len]; omega)]
theorem esc_val (x : Int) (h0 : 0 ≤ x) (h1 : x ≤ 255) : ((UInt8.ofNat x.toNat).toNat : Int) = x := by
  rw [UInt8.toNat_ofNat']
  omega
set_option maxHeartbeats 4000000 in
theorem wEscaped (s : ByteArray) (i : Nat) (hi : i < s.size) (hs : s.size ≤ 4611686018427387904) (w : World) : Calls Try.prog 35 #[.string s, .int .i64 (i : Int)] w fun e w' => e = escR (escW (bs s) i) ∧ w' = w := by
  obtain ⟨j1, hj1⟩ : ∃ j, i + 1 = j := ⟨_, rfl⟩
  obtain ⟨j2, hj2⟩ : ∃ j, i + 2 = j := ⟨_, rfl⟩
  obtain ⟨j3, hj3⟩ : ∃ j, i + 3 = j := ⟨_, rfl⟩
  obtain ⟨j4, hj4⟩ : ∃ j, i + 4 = j := ⟨_, rfl⟩
  have w1 : IntKind.i64.wrap ((i : Int) + 1) = (j1 : Int) := by rw [IntWalk.i64_in _ (by omega)]; omega
  have w2 : IntKind.i64.wrap ((i : Int) + 2) = (j2 : Int) := by rw [IntWalk.i64_in _ (by omega)]; omega
  have w4 : IntKind.i64.wrap ((i : Int) + 4) = (j4 : Int) := by rw [IntWalk.i64_in _ (by omega)]; omega
  have HESC := Lib.hid (show escW (bs s) i = match (bs s)[j1]? with
    | none => .bad (bs s).length 162
    | some c =>
      if c.toNat = 34 ∨ c.toNat = 92 then .ok c j2
      else if c.toNat ≠ 120 then .bad j1 161
      else match (bs s)[j2]? with
        | none => .bad (bs s).length 162
        | some a =>
          if digB a < 0 then .bad j2 161
          else match (bs s)[j3]? with
            | none => .bad (bs s).length 162
            | some b =>
              if digB b < 0 then .bad j3 161
              else if 32 ≤ 16 * digB a + digB b ∧ 16 * digB a + digB b ≤ 126 then .bad i 161
              else .ok (UInt8.ofNat (16 * digB a + digB b).toNat) j4 by rw [← hj1, ← hj2, ← hj3, ← hj4]; rfl)
  by_cases h1 : j1 < s.size
  · obtain ⟨c, hc⟩ : ∃ c, s[j1]'h1 = c := ⟨_, rfl⟩
    have hn : c.toNat ≤ 255 := by have := c.toNat_lt; omega
    have d1 : decide ((s.size : Int) ≤ (j1 : Int)) = false := decide_eq_false (by omega)
    have d1' : decide (s.size ≤ j1) = false := decide_eq_false (by omega)
    have h1i : (j1 : Int) < (s.size : Int) := by omega
    by_cases k1 : c.toNat = 34 ∨ c.toNat = 92
    · have HE := Lib.hid (show escW (bs s) i = .ok c j2 by rw [HESC.out, bs_get?, dif_pos h1, hc]; dsimp only; rw [if_pos k1])
      have k3 : (((c.toNat : Int) == 34) = true) ∨ (((c.toNat : Int) == 34) = false ∧ ((c.toNat : Int) == 92) = true) := by
        simp only [beq_iff_eq, beq_eq_false_iff_ne]
        omega
      clear hj1 hj2 hj3 hj4 k1 HESC
      rcases k3 with k3 | ⟨k3, k4⟩
      all_goals
        go_enter Try.func35, Try.ntmps35
        go_wp2
        go_ret3
        exact ⟨by rw [HE.out]; rfl, rfl⟩
    have k3 : ((c.toNat : Int) == 34) = false := by rw [beq_eq_false_iff_ne]; omega
    have k4 : ((c.toNat : Int) == 92) = false := by rw [beq_eq_false_iff_ne]; omega
    by_cases k2 : c.toNat ≠ 120
    · have HE := Lib.hid (show escW (bs s) i = .bad j1 161 by rw [HESC.out, bs_get?, dif_pos h1, hc]; dsimp only; rw [if_neg k1, if_pos k2])
      have k5 : ((c.toNat : Int) == 120) = false := by rw [beq_eq_false_iff_ne]; omega
      clear hj1 hj2 hj3 hj4 k1 k2 HESC
      go_enter Try.func35, Try.ntmps35
      go_wp2
      go_ret3
      exact ⟨by rw [HE.out]; rfl, rfl⟩
    have k5 : ((c.toNat : Int) == 120) = true := by rw [beq_iff_eq]; omega
    have HE := Lib.hid (show escW (bs s) i = match (bs s)[j2]? with
        | none => .bad (bs s).length 162
        | some a =>
          if digB a < 0 then .bad j2 161
          else match (bs s)[j3]? with
            | none => .bad (bs s).length 162
            | some b =>
              if digB b < 0 then .bad j3 161
              else if 32 ≤ 16 * digB a + digB b ∧ 16 * digB a + digB b ≤ 126 then .bad i 161
              else .ok (UInt8.ofNat (16 * digB a + digB b).toNat) j4 by rw [HESC.out, bs_get?, dif_pos h1, hc]; dsimp only; rw [if_neg k1, if_neg k2])
    have b12 : j1 + 1 = j2 := by omega
    have b23 : j2 + 1 = j3 := by omega
    have b34 : j3 + 1 = j4 := by omega
    have HB := Lib.hid (And.intro b12 (And.intro b23 b34))
    have w23 : IntKind.i64.wrap ((j2 : Int) + 1) = (j3 : Int) := by rw [IntWalk.i64_in _ (by omega)]; omega
    have w34 : IntKind.i64.wrap ((j3 : Int) + 1) = (j4 : Int) := by rw [IntWalk.i64_in _ (by omega)]; omega
    clear hj1 hj2 hj3 hj4 k1 k2 HESC b12 b23 b34
    go_enter Try.func35, Try.ntmps35
    go_wp2
    go_loopw [8, 9] (fun v k wr => ((k = .int .i64 (j2 : Int) ∧ v = .int .i64 0) ∨ (∃ a, Hid ((bs s)[j2]? = some a) ∧ 0 ≤ digB a ∧ k = .int .i64 (j3 : Int) ∧ v = .int .i64 (digB a)) ∨ (∃ a b, Hid ((bs s)[j2]? = some a) ∧ Hid ((bs s)[j3]? = some b) ∧ 0 ≤ digB a ∧ 0 ≤ digB b ∧ k = .int .i64 (j4 : Int) ∧ v = .int .i64 (16 * digB a + digB b))) ∧ wr = w) (fun _ k _ => j4 - (intOf k).toNat)
    case atStart => exact ⟨.inl ⟨rfl, rfl⟩, rfl⟩
    case round =>
      obtain ⟨h, rfl⟩ := hrel
      rcases h with ⟨rfl, rfl⟩ | ⟨a, HA, ha, rfl, rfl⟩ | ⟨a, b, HA, HB2, ha, hb, rfl, rfl⟩
      · have d2 : decide ((j2 : Int) < (j4 : Int)) = true := decide_eq_true (by have := HB.out; omega)
        have d2' : decide (j2 < j4) = true := decide_eq_true (by have := HB.out; omega)
        by_cases h2 : j2 < s.size
        · obtain ⟨a, ha⟩ : ∃ a, s[j2]'h2 = a := ⟨_, rfl⟩
          have HA := Lib.hid (show (bs s)[j2]? = some a by rw [bs_get?, dif_pos h2, ha])
          have d3 : decide ((s.size : Int) ≤ (j2 : Int)) = false := decide_eq_false (by omega)
          have d3' : decide (s.size ≤ j2) = false := decide_eq_false (by omega)
          have h2i : (j2 : Int) < (s.size : Int) := by omega
          have HD := Lib.hid (fun W => wDigit a W)
          have hdl := digB_lt a
          by_cases hneg : digB a < 0
          · have d4 : decide (digB a < 0) = true := decide_eq_true hneg
            have HR := Lib.hid (show escW (bs s) i = .bad j2 161 by rw [HE.out, HA.out]; dsimp only; rw [if_pos hneg])
            clear hneg HE hdl
            generalize digB a = D at *
            go_wp2_with fail
            refine (HD.out _).mono ?_
            rintro e w' ⟨rfl, rfl⟩
            go_wp2
            go_ret3
            exact ⟨by rw [HR.out]; rfl, rfl⟩
          · have d4 : decide (digB a < 0) = false := decide_eq_false hneg
            have hw : IntKind.i64.wrap (IntKind.i64.wrap (16 * 0) + digB a) = digB a := by
              rw [show IntKind.i64.wrap (16 * 0) = 0 from IntWalk.i64_in _ (by omega), Int.zero_add]; exact IntWalk.i64_in _ (by omega)
            have hw' : IntKind.i64.wrap (digB a) = digB a := IntWalk.i64_in _ (by omega)
            obtain ⟨D, hD⟩ : ∃ D, digB a = D := ⟨_, rfl⟩
            have HDD := Lib.hid hD
            have h0 : 0 ≤ D := by omega
            rw [hD] at HD d4 hw hw'
            clear hneg hdl hD
            go_wp2_with fail
            refine (HD.out _).mono ?_
            rintro e w' ⟨rfl, rfl⟩
            go_wp2
            go_roundw
            case rel => exact ⟨.inr (.inl ⟨a, HA, by rw [HDD.out]; exact h0, rfl, by rw [HDD.out]⟩), trivial⟩
            case measure => first | (simp [intOf]; done) | (simp [intOf]; have := HB.out; omega)
        · have HR := Lib.hid (show escW (bs s) i = .bad s.size 162 by rw [HE.out, bs_get?, dif_neg h2]; dsimp only; rw [bs_len])
          have d3 : decide ((s.size : Int) ≤ (j2 : Int)) = true := decide_eq_true (by omega)
          have d3' : decide (s.size ≤ j2) = true := decide_eq_true (by omega)
          clear HE
          go_wp2
          go_ret3
          exact ⟨by rw [HR.out]; rfl, rfl⟩
      · have d2 : decide ((j3 : Int) < (j4 : Int)) = true := decide_eq_true (by have := HB.out; omega)
        have d2' : decide (j3 < j4) = true := decide_eq_true (by have := HB.out; omega)
        by_cases h2 : j3 < s.size
        · obtain ⟨b, hb⟩ : ∃ b, s[j3]'h2 = b := ⟨_, rfl⟩
          have HB2 := Lib.hid (show (bs s)[j3]? = some b by rw [bs_get?, dif_pos h2, hb])
          have d3 : decide ((s.size : Int) ≤ (j3 : Int)) = false := decide_eq_false (by omega)
          have d3' : decide (s.size ≤ j3) = false := decide_eq_false (by omega)
          have h2i : (j3 : Int) < (s.size : Int) := by omega
          have HD := Lib.hid (fun W => wDigit b W)
          have hdl := digB_lt b
          have hdla := digB_lt a
          by_cases hneg : digB b < 0
          · have d4 : decide (digB b < 0) = true := decide_eq_true hneg
            have HR := Lib.hid (show escW (bs s) i = .bad j3 161 by rw [HE.out, HA.out]; dsimp only; rw [if_neg (by omega), HB2.out]; dsimp only; rw [if_pos hneg])
            clear hneg HE hdl hdla ha
            generalize digB b = D at *
            generalize digB a = D0 at *
            go_wp2_with fail
            refine (HD.out _).mono ?_
            rintro e w' ⟨rfl, rfl⟩
            go_wp2
            go_ret3
            exact ⟨by rw [HR.out]; rfl, rfl⟩
          · have d4 : decide (digB b < 0) = false := decide_eq_false hneg
            have hw0 : IntKind.i64.wrap (16 * digB a) = 16 * digB a := IntWalk.i64_in _ (by omega)
            have hw : IntKind.i64.wrap (16 * digB a + digB b) = 16 * digB a + digB b := IntWalk.i64_in _ (by omega)
            obtain ⟨D, hD⟩ : ∃ D, digB b = D := ⟨_, rfl⟩
            obtain ⟨D0, hD0⟩ : ∃ D0, digB a = D0 := ⟨_, rfl⟩
            have HDD := Lib.hid hD
            have HDD0 := Lib.hid hD0
            have h0 : 0 ≤ D := by omega
            have h00 : 0 ≤ D0 := by omega
            rw [hD] at HD d4 hw
            rw [hD0] at hw0 hw ⊢
            clear hneg hdl hdla hD hD0 ha
            go_wp2_with fail
            refine (HD.out _).mono ?_
            rintro e w' ⟨rfl, rfl⟩
            go_wp2
            go_roundw
            case rel => exact ⟨.inr (.inr ⟨a, b, HA, HB2, by rw [HDD0.out]; exact h00, by rw [HDD.out]; exact h0, rfl, by rw [HDD.out, HDD0.out]⟩), trivial⟩
            case measure => first | (simp [intOf]; done) | (simp [intOf]; have := HB.out; omega)
        · have HR := Lib.hid (show escW (bs s) i = .bad s.size 162 by rw [HE.out, HA.out]; dsimp only; rw [if_neg (by omega), bs_get?, dif_neg h2]; dsimp only; rw [bs_len])
          have d3 : decide ((s.size : Int) ≤ (j3 : Int)) = true := decide_eq_true (by omega)
          have d3' : decide (s.size ≤ j3) = true := decide_eq_true (by omega)
          clear HE ha
          generalize digB a = D0 at *
          go_wp2
          go_ret3
          exact ⟨by rw [HR.out]; rfl, rfl⟩
      · have hdl := digB_lt b
        have hdla := digB_lt a
        have d2 : decide ((j4 : Int) < (j4 : Int)) = false := decide_eq_false (by omega)
        have d2' : decide (j4 < j4) = false := decide_eq_false (by omega)
        have HE2 := Lib.hid (show escW (bs s) i = if 32 ≤ 16 * digB a + digB b ∧ 16 * digB a + digB b ≤ 126 then .bad i 161 else .ok (UInt8.ofNat (16 * digB a + digB b).toNat) j4 by
          rw [HE.out, HA.out]; dsimp only; rw [if_neg (by omega), HB2.out]; dsimp only; rw [if_neg (by omega)])
        have hv0 : 0 ≤ 16 * digB a + digB b := by omega
        have hv1 : 16 * digB a + digB b ≤ 255 := by omega
        generalize 16 * digB a + digB b = V at *
        clear HE ha hb hdl hdla HA HB2
        by_cases hin : 32 ≤ V ∧ V ≤ 126
        · have HR := Lib.hid (show escW (bs s) i = .bad i 161 by rw [HE2.out, if_pos hin])
          have e1 : decide (32 ≤ V) = true := decide_eq_true hin.1
          have e2 : decide (V ≤ 126) = true := decide_eq_true hin.2
          clear hin HE2
          go_wp2
          go_ret3
          exact ⟨by rw [HR.out]; rfl, rfl⟩
        · have HR := Lib.hid (show escW (bs s) i = .ok (UInt8.ofNat V.toNat) j4 by rw [HE2.out, if_neg hin])
          have HV := Lib.hid (esc_val V hv0 hv1)
          have hm : V % 256 = V := by omega
          have e3 : decide (32 ≤ V) = false ∨ (decide (32 ≤ V) = true ∧ decide (V ≤ 126) = false) := by
            simp only [decide_eq_true_eq, decide_eq_false_iff_not]
            omega
          clear hin HE2
          rcases e3 with e1 | ⟨e1, e2⟩
          all_goals
            go_wp2
            go_ret3
            exact ⟨by rw [HR.out]; exact (congrArg (fun x => Ending.returned (.tuple #[.int .u8 x, .int .i64 (j4 : Int), .int .i64 0])) HV.out).symm, rfl⟩
  · have HE := Lib.hid (show escW (bs s) i = .bad s.size 162 by rw [HESC.out, bs_get?, dif_neg h1]; dsimp only; rw [bs_len])
    have d1 : decide ((s.size : Int) ≤ (j1 : Int)) = true := decide_eq_true (by omega)
    have d1' : decide (s.size ≤ j1) = true := decide_eq_true (by omega)
    clear hj1 hj2 hj3 hj4 HESC
    go_enter Try.func35, Try.ntmps35
    go_wp2
    go_ret3
    exact ⟨by rw [HE.out]; rfl, rfl⟩
end Go.Proofs.Ytdhlbdllidfenaa.Wd
