/- Words: one word; Split, walked. Conditions: none. -/
import Derived.Test.YtdhlbdllidfenaaWdE
namespace Go.Proofs.Ytdhlbdllidfenaa.Wd
open Go.RowKit Go.Proofs.Ytdhlbdllidfenaa.Mem
set_option linter.unusedVariables false
set_option linter.unusedSimpArgs false
theorem bs_extract (s : ByteArray) (a b : Nat) : bs (s.extract a b) = ((bs s).drop a).take (b - a) := by
  unfold bs
  rw [ByteArray.data_extract, Array.toList_extract]
theorem ext_mk (s : ByteArray) (a b : Nat) : s.extract a b = ⟨(((bs s).drop a).take (b - a)).toArray⟩ := by rw [← bs_extract, bs_mk]
theorem bs_getD (s : ByteArray) (k : Nat) (h : k < s.size) : (bs s).getD k 0 = s[k] := by
  rw [List.getD_eq_getElem?_getD, bs_get?, dif_pos h]; rfl
set_option maxHeartbeats 4000000 in
set_option maxRecDepth 100000 in
theorem wOne (s : ByteArray) (i : Nat) (hi : i < s.size) (hs : s.size ≤ 140737488351232) (w : World) : Calls Try.prog 16 #[.string s, .int .i64 (i : Int)] w fun e w' => e = quoR (oneW (bs s) i) ∧ Fr No w w' := by
  obtain ⟨c, hc⟩ : ∃ c, s[i]'hi = c := ⟨_, rfl⟩
  have hg : (bs s).getD i 0 = c := by rw [bs_getD s i hi, hc]
  have hii : (i : Int) < (s.size : Int) := by omega
  by_cases q : c.toNat = 34
  · have HQ := Lib.hid (wQuoted s i hi hs w)
    have HE := Lib.hid (show oneW (bs s) i = quoW (bs s) i (i + 1) [] by unfold oneW; rw [hg, if_pos q])
    have e1 : ((c.toNat : Int) == 34) = true := by rw [beq_iff_eq]; omega
    clear q hg
    obtain ⟨R, hR⟩ : ∃ R, quoW (bs s) i (i + 1) [] = R := ⟨_, rfl⟩
    rw [hR] at HQ HE
    clear hR
    cases R with
    | bad p cc =>
      unfold quoR at HQ
      dsimp only at HQ
      go_enter Try.func16, Try.ntmps16
      go_wp2_with fail
      refine HQ.out.mono ?_
      rintro e w1 ⟨rfl, hF⟩
      go_wp2
      go_ret3
      exact ⟨by rw [HE.out]; rfl, hF⟩
    | ok ww ee =>
      unfold quoR at HQ
      dsimp only at HQ
      go_enter Try.func16, Try.ntmps16
      go_wp2_with fail
      refine HQ.out.mono ?_
      rintro e w1 ⟨rfl, hF⟩
      go_wp2
      go_ret3
      exact ⟨by rw [HE.out]; rfl, hF⟩
  · have e1 : ((c.toNat : Int) == 34) = false := by rw [beq_eq_false_iff_ne]; omega
    have HE := Lib.hid (show oneW (bs s) i = if bareEnd (bs s) i = i then .bad i 161 else .ok (((bs s).drop i).take (bareEnd (bs s) i - i)) (bareEnd (bs s) i) by unfold oneW; rw [hg, if_neg q])
    clear q hg
    go_enter Try.func16, Try.ntmps16
    go_wp2
    go_loopw [7] (fun v wr => ∃ e : Nat, v = .int .i64 (e : Int) ∧ i ≤ e ∧ e ≤ s.size ∧ Hid (bareEnd (bs s) e = bareEnd (bs s) i) ∧ Hid (Fr No w wr)) (fun v _ => s.size - (intOf v).toNat)
    case atStart => exact ⟨i, rfl, Nat.le_refl _, by omega, rfl, Fr.refl _ _⟩
    case round =>
      obtain ⟨e, rfl, h1, h2, HB, HF⟩ := hrel
      have hw : IntKind.i64.wrap ((e : Int) + 1) = (e : Int) + 1 := IntWalk.i64_in _ (by omega)
      by_cases hgo : ∃ h : e < s.size, bareB (s[e]'h) = true
      · obtain ⟨hlt, hb⟩ := hgo
        have HBB := Lib.hid (fun W => wBare (s[e]'hlt) W)
        rw [hb] at HBB
        have d0 : decide ((e : Int) < (s.size : Int)) = true := decide_eq_true (by omega)
        have d0' : decide (e < s.size) = true := decide_eq_true hlt
        have hei : (e : Int) < (s.size : Int) := by omega
        have HN := Lib.hid (show bareEnd (bs s) (e + 1) = bareEnd (bs s) i by
          rw [← HB.out]
          exact (bareEnd_yes (l := bs s) (i := e) (by rw [bs_len]; exact hlt) (by rw [bs_get s e hlt]; exact hb)).symm)
        clear hb HB
        go_wp2_with fail
        refine (HBB.out _).mono ?_
        rintro ee w' ⟨rfl, rfl⟩
        go_wp2
        go_roundw
        case rel => exact ⟨e + 1, by go_num, by omega, by omega, HN, HF⟩
        case measure => simp [intOf]; omega
      · have HN := Lib.hid (show bareEnd (bs s) i = e by
          rw [← HB.out]
          by_cases hlt : e < s.size
          · have : bareB (s[e]'hlt) = false := by
              cases q : bareB (s[e]'hlt) with
              | false => rfl
              | true => exact absurd ⟨hlt, q⟩ hgo
            exact bareEnd_no (by rw [bs_len]; exact hlt) (by rw [bs_get s e hlt]; exact this)
          · exact bareEnd_end (by rw [bs_len]; omega))
        have HX := Lib.hid (ext_mk s i e)
        have hsp : (e = i ∧ Hid (oneW (bs s) i = .bad i 161)) ∨ (¬ e = i ∧ Hid (oneW (bs s) i = .ok (((bs s).drop i).take (e - i)) e)) := by
          by_cases q : e = i
          · exact .inl ⟨q, by show _ = _; rw [HE.out, HN.out, if_pos q]⟩
          · exact .inr ⟨q, by show _ = _; rw [HE.out, HN.out, if_neg q]⟩
        have hex : (decide (e < s.size) = false ∧ decide ((e : Int) < (s.size : Int)) = false) ∨ ∃ h : e < s.size, bareB (s[e]'h) = false := by
          by_cases hlt : e < s.size
          · refine .inr ⟨hlt, ?_⟩
            cases q : bareB (s[e]'hlt) with
            | false => rfl
            | true => exact absurd ⟨hlt, q⟩ hgo
          · exact .inl ⟨decide_eq_false hlt, decide_eq_false (by omega)⟩
        have hei2 : (i : Int) ≤ (e : Int) := by omega
        have hes : (e : Int) ≤ (s.size : Int) := by omega
        clear hgo HB HN HE
        rcases hex with ⟨d0', d0⟩ | ⟨hlt, hb⟩
        case' inl =>
          go_upto_region 6 with (fail)
        case' inr =>
          have HBB := Lib.hid (fun W => wBare (s[e]'hlt) W)
          rw [hb] at HBB
          have d0 : decide ((e : Int) < (s.size : Int)) = true := decide_eq_true (by omega)
          have d0' : decide (e < s.size) = true := decide_eq_true hlt
          have hei : (e : Int) < (s.size : Int) := by omega
          clear hb
          go_wp2_with fail
          refine (HBB.out _).mono ?_
          rintro ee w' ⟨rfl, rfl⟩
          go_upto_region 6 with (fail)
        all_goals
          rcases hsp with ⟨he, HR⟩ | ⟨he, HR⟩
          · have b1 : ((e : Int) == (i : Int)) = true := by rw [beq_iff_eq]; omega
            clear he
            go_wp2
            go_ret3
            exact ⟨by rw [HR.out]; rfl, HF.out⟩
          · have b1 : ((e : Int) == (i : Int)) = false := by rw [beq_eq_false_iff_ne]; omega
            clear he
            go_wp2
            go_ret3
            exact ⟨by rw [HR.out]; show Ending.returned (.tuple #[.string (s.extract i e), .int .i64 (e : Int), .int .i64 0]) = _; rw [HX.out]; rfl, HF.out⟩
end Go.Proofs.Ytdhlbdllidfenaa.Wd
