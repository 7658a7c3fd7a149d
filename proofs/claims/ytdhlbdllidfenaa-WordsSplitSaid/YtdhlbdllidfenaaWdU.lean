/- Words: the reference's Split, walked. Conditions: none. -/
import Derived.Test.YtdhlbdllidfenaaWdT
namespace Go.Proofs.Ytdhlbdllidfenaa.Wd
open Go.RowKit Go.Proofs.Ytdhlbdllidfenaa.Mem
set_option linter.unusedVariables false
set_option linter.unusedSimpArgs false
theorem newVals (w : World) (cs : List Value) : ∃ ad, some (⟨w.heap.size, 0, none⟩ : Addr) = some ad ∧ ∀ (j : Nat) (u : Value), cs[j]? = some u → (w.alloc (.cells cs.toArray 9 (0, 0))).cell? (ad.add j) = some u :=
  ⟨_, rfl, fun j u hj => by rw [add0]; exact ((Bk.new w 9 cs).cell j).trans hj⟩
theorem TBuf.splits {w wr : World} {rb : Option Nat} {A : Option Addr} {n c : Nat} {l : List (List UInt8)} (h : TBuf w wr rb (.slice A n c) l) (hn : l.length = n) : Splits w (l, 0, 0) (.returned (.tuple #[.slice A n c, .int .i64 0, .int .i64 0])) wr := by
  refine ⟨A, c, rb, ?_, ?_, h.2.1, h.2.2⟩
  · show _ = Ending.returned (.tuple #[.slice A l.length c, .int .i64 0, .int .i64 0])
    rw [hn]
  · show Row _ _ _ _ (.slice A l.length c) l.length _
    have := h.1
    rw [hn] at this ⊢
    exact this
set_option maxHeartbeats 8000000 in
set_option maxRecDepth 100000 in
theorem rSplit (s : ByteArray) (w : World) : Calls Try.prog 17 #[.string s] w (Splits w (splitL (bs s))) := by
  obtain ⟨R, hR⟩ : ∃ R, splitL (bs s) = R := ⟨_, rfl⟩
  rw [hR]
  by_cases hlong : 8192 < s.size
  · have HE := Lib.hid (show R = ([], 0, 160) by rw [← hR]; unfold splitL; rw [if_pos (by rw [bs_len]; exact hlong)])
    have d0 : decide ((8192 : Int) < (s.size : Int)) = true := decide_eq_true (by omega)
    have d0' : decide (8192 < s.size) = true := decide_eq_true hlong
    clear hR
    go_enter Try.func17, Try.ntmps17
    go_wp2
    go_ret3
    rw [HE.out]
    exact Splits.nil_ 0 160 (Fr.refl _ _)
  · have HR := Lib.hid (show splitW (bs s) 0 [] = R by rw [← hR]; unfold splitL; rw [if_neg (by rw [bs_len]; exact hlong)])
    have d0 : decide ((8192 : Int) < (s.size : Int)) = false := decide_eq_false (by omega)
    have d0' : decide (8192 < s.size) = false := decide_eq_false hlong
    have hs2 : s.size ≤ 8192 := by omega
    clear hR hlong
    go_enter Try.func17, Try.ntmps17
    go_wp2
    go_loopw [5, 6] (fun v5 v6 wr => ∃ (i n : Nat) (out : List (List UInt8)) (A : Option Addr) (c : Nat) (rb : Option Nat), v5 = .slice A n c ∧ v6 = .int .i64 (i : Int) ∧ i ≤ s.size ∧ n ≤ i ∧ Hid (out.length = n) ∧ Hid (splitW (bs s) i out = R) ∧ Hid (TBuf w wr rb (.slice A n c) out)) (fun _ v6 _ => s.size - (intOf v6).toNat)
    case atStart => exact ⟨0, 0, [], none, 0, none, rfl, rfl, Nat.zero_le _, Nat.le_refl _, rfl, HR.out, Row.nil _ _ _, Fr.refl _ _, fun k hk => by cases hk⟩
    case round =>
      clear HR
      obtain ⟨i, n, out, A, c, rb, rfl, rfl, hi, hn, HL, HQ, HB⟩ := hrel
      have hw : IntKind.i64.wrap ((i : Int) + 1) = (i : Int) + 1 := IntWalk.i64_in _ (by omega)
      by_cases hlt : i < s.size
      · have d1 : decide ((i : Int) < (s.size : Int)) = true := decide_eq_true (by omega)
        have d1' : decide (i < s.size) = true := decide_eq_true hlt
        have hii : (i : Int) < (s.size : Int) := by omega
        have hbi : i < (bs s).length := by rw [bs_len]; exact hlt
        obtain ⟨ch, hch⟩ : ∃ ch, s[i]'hlt = ch := ⟨_, rfl⟩
        have hbc : (bs s)[i]'hbi = ch := by rw [bs_get s i hlt, hch]
        by_cases q : ch.toNat = 32
        · have e1 : ((ch.toNat : Int) == 32) = true := by rw [beq_iff_eq]; omega
          have HQ2 := Lib.hid (show splitW (bs s) (i + 1) out = R by rw [← HQ.out, split_blank hbi (by rw [hbc]; exact q)])
          clear q hbc hbi HQ
          go_wp2
          go_roundw
          case rel => exact ⟨i + 1, n, out, A, c, rb, rfl, by go_num, by omega, by omega, HL, HQ2, HB⟩
          case measure => simp [intOf]; omega
        have e1 : ((ch.toNat : Int) == 32) = false := by rw [beq_eq_false_iff_ne]; omega
        have HX := Lib.hid (split_one (out := out) hbi (by rw [hbc]; exact q))
        have hgd : (bs s).getD i 0 = ch := by rw [getD_get hbi, hbc]
        have HRW := Lib.hid (fun W hW => HB.out.row (w1 := W) HL.out hW)
        have Hend := Lib.hid (show ∀ e wd, oneW (bs s) i = .ok wd e → i < e ∧ e ≤ s.size ∧ ((∃ h : e < s.size, (s[e]'h).toNat ≠ 32 ∧ Hid (R = ([], e, 161))) ∨ ((¬ e < s.size ∨ ∃ h : e < s.size, (s[e]'h).toNat = 32) ∧ Hid (splitW (bs s) e (out ++ [wd]) = R))) from fun e wd hO => by
          have hee := one_ok hbi hO
          rw [bs_len] at hee
          have HE : (if e < (bs s).length ∧ ((bs s).getD e 0).toNat ≠ 32 then (([], e, 161) : SR) else splitW (bs s) e (out ++ [wd])) = R := by rw [← HQ.out, HX.out, hO]
          refine ⟨hee.1, hee.2, ?_⟩
          by_cases h1 : e < s.size
          · by_cases h2 : (s[e]'h1).toNat = 32
            · exact .inr ⟨.inr ⟨h1, h2⟩, by show _ = _; rw [← HE, if_neg (by rw [bs_getD s e h1]; omega)]⟩
            · exact .inl ⟨h1, h2, by show _ = _; rw [← HE, if_pos (by rw [bs_getD s e h1, bs_len]; exact ⟨h1, h2⟩)]⟩
          · exact .inr ⟨.inl h1, by show _ = _; rw [← HE, if_neg (by rw [bs_len]; omega)]⟩)
        by_cases q3 : ch.toNat = 34
        · have e2 : ((ch.toNat : Int) == 34) = true := by rw [beq_iff_eq]; omega
          have hO1 : oneW (bs s) i = quoW (bs s) i (i + 1) [] := by unfold oneW; rw [hgd, if_pos q3]
          have HO := Lib.hid (fun W => rQuoted s i hlt (by omega) W)
          rw [← hO1] at HO
          clear hO1 hgd q q3 hbc
          rcases hO : oneW (bs s) i with ⟨p, cc⟩ | ⟨wd, e⟩
          · have hcc : (cc != 0) = true := by
              have : cc = 161 ∨ cc = 162 := one_bad hbi hO
              rcases this with rfl | rfl <;> rfl
            have HE := Lib.hid (show R = ([], p, cc) by rw [← HQ.out, HX.out, hO])
            have HF := Lib.hid HB.out.2.1
            rw [hO] at HO
            unfold quoR at HO
            dsimp only at HO
            clear hO hbi HX HQ Hend HRW HB HL
            go_wp2_with fail
            refine (HO.out _).mono ?_
            rintro ee w' ⟨rfl, hF2⟩
            go_wp2
            go_ret3
            rw [HE.out]
            exact Splits.nil_ p cc (HF.out.then_ hF2)
          · obtain ⟨hie, hes, hsp⟩ := Hend.out e wd hO
            rw [hO] at HO
            unfold quoR at HO
            dsimp only at HO
            clear hO hbi HX HQ Hend
            rcases hsp with ⟨h1, h2, HE2⟩ | ⟨h1 | ⟨h1, h2⟩, HQ2⟩
            case' inl =>
              have d2 : decide ((e : Int) < (s.size : Int)) = true := decide_eq_true (by omega)
              have d2' : decide (e < s.size) = true := decide_eq_true h1
              have hei : (e : Int) < (s.size : Int) := by omega
              have e3 : (((s[e]'h1).toNat : Int) != 32) = true := by rw [bne_iff_ne]; omega
              clear h2
            case' inr.inl =>
              have d2 : decide ((e : Int) < (s.size : Int)) = false := decide_eq_false (by omega)
              have d2' : decide (e < s.size) = false := decide_eq_false h1
            case' inr.inr =>
              have d2 : decide ((e : Int) < (s.size : Int)) = true := decide_eq_true (by omega)
              have d2' : decide (e < s.size) = true := decide_eq_true h1
              have hei : (e : Int) < (s.size : Int) := by omega
              have e3 : (((s[e]'h1).toNat : Int) != 32) = false := by rw [bne_eq_false_iff_eq]; omega
              clear h2
            all_goals
              go_wp2_with fail
              refine (HO.out _).mono ?_
              rintro ee w3 ⟨rfl, hF3⟩
              have HB3 := Lib.hid (HB.out.quiet hF3)
              have HRW3 := Lib.hid (fun W hW => HB3.out.row (w1 := W) HL.out hW)
              clear hF3 HB HRW HO
              go_wp2_with (at_builtin; refine wl_append _ rfl (.tmp 39) (.tmp 41) 22 rfl 9 _ 1 16 Try.underlying22 infoStr rfl (by decide) rb _ n (out.map sv) rfl (HRW3.out _ ((Fr.refl No w3).alloc _)) (some ⟨w3.heap.size, 0, none⟩) 1 1 ([wd].map sv) rfl rfl (fun _ => newTexts1 w3 [wd]) (sv_one _) (by unfold maxLen; omega) (by omega) ?_; intro A6 c6 w6 rb6 hrow6 hF6 hnb6)
              have HB6 := Lib.hid ((HB3.out.quiet ((Fr.refl No w3).alloc _)).grow (k := [wd]) hrow6 HL.out rfl hF6 hnb6)
              have HL6 := Lib.hid (show (out ++ [wd]).length = n + 1 by rw [List.length_append, HL.out]; rfl)
              clear hrow6 hF6 hnb6 HB3 HL
              first
                | (go_wp2; go_ret3; rw [HE2.out]; exact Splits.nil_ e 161 HB6.out.2.1)
                | (go_wp2; go_roundw; (case rel => exact ⟨e, n + 1, out ++ [wd], A6, c6, rb6, rfl, rfl, hes, by omega, HL6, HQ2, HB6⟩); (case measure => (simp [intOf]; omega)))
        · have e2 : ((ch.toNat : Int) == 34) = false := by rw [beq_eq_false_iff_ne]; omega
          have HE := Lib.hid (show oneW (bs s) i = if bareEnd (bs s) i = i then .bad i 161 else .ok (((bs s).drop i).take (bareEnd (bs s) i - i)) (bareEnd (bs s) i) by unfold oneW; rw [hgd, if_neg q3])
          have hq32 : ((ch.toNat : Int) != 32) = true := by rw [bne_iff_ne]; omega
          clear hgd hbc q q3
          go_wp2
          go_loopw [6] (fun v wq => ∃ e : Nat, v = .int .i64 (e : Int) ∧ i ≤ e ∧ e ≤ s.size ∧ Hid (bareEnd (bs s) e = bareEnd (bs s) i) ∧ wq = wr) (fun v _ => s.size - (intOf v).toNat)
          case atStart => exact ⟨i, rfl, Nat.le_refl _, by omega, rfl, rfl⟩
          case round =>
            obtain ⟨e, rfl, h1, h2, HBE, rfl⟩ := hrel
            have hw : IntKind.i64.wrap ((e : Int) + 1) = (e : Int) + 1 := IntWalk.i64_in _ (by omega)
            by_cases hgo : ∃ h : e < s.size, bareB (s[e]'h) = true
            · obtain ⟨hlt2, hb⟩ := hgo
              have HBB := Lib.hid (fun W => rBare (s[e]'hlt2) W)
              rw [hb] at HBB
              have d0 : decide ((e : Int) < (s.size : Int)) = true := decide_eq_true (by omega)
              have d0' : decide (e < s.size) = true := decide_eq_true hlt2
              have hei : (e : Int) < (s.size : Int) := by omega
              have HN := Lib.hid (show bareEnd (bs s) (e + 1) = bareEnd (bs s) i by
                rw [← HBE.out]
                exact (bareEnd_yes (l := bs s) (i := e) (by rw [bs_len]; exact hlt2) (by rw [bs_get s e hlt2]; exact hb)).symm)
              clear hb HBE
              go_wp2_with fail
              refine (HBB.out _).mono ?_
              rintro ee w' ⟨rfl, rfl⟩
              go_wp2
              go_roundw
              case rel => exact ⟨e + 1, by go_num, by omega, by omega, HN, trivial⟩
              case measure => simp [intOf]; omega
            · have HN := Lib.hid (show bareEnd (bs s) i = e by
                rw [← HBE.out]
                by_cases hlt2 : e < s.size
                · have : bareB (s[e]'hlt2) = false := by
                    cases q : bareB (s[e]'hlt2) with
                    | false => rfl
                    | true => exact absurd ⟨hlt2, q⟩ hgo
                  exact bareEnd_no (by rw [bs_len]; exact hlt2) (by rw [bs_get s e hlt2]; exact this)
                · exact bareEnd_end (by rw [bs_len]; omega))
              have HXT := Lib.hid (ext_mk s i e)
              have hex : (decide (e < s.size) = false ∧ decide ((e : Int) < (s.size : Int)) = false) ∨ ∃ h : e < s.size, bareB (s[e]'h) = false := by
                by_cases hlt2 : e < s.size
                · refine .inr ⟨hlt2, ?_⟩
                  cases q : bareB (s[e]'hlt2) with
                  | false => rfl
                  | true => exact absurd ⟨hlt2, q⟩ hgo
                · exact .inl ⟨decide_eq_false hlt2, decide_eq_false (by omega)⟩
              have hei2 : (i : Int) ≤ (e : Int) := by omega
              have hes : (e : Int) ≤ (s.size : Int) := by omega
              clear hgo HBE
              rcases hex with ⟨d0', d0⟩ | ⟨hlt2, hb⟩
              case' inl =>
                go_upto_region 17 with (fail)
              case' inr =>
                have HBB := Lib.hid (fun W => rBare (s[e]'hlt2) W)
                rw [hb] at HBB
                have d0 : decide ((e : Int) < (s.size : Int)) = true := decide_eq_true (by omega)
                have d0' : decide (e < s.size) = true := decide_eq_true hlt2
                have hei : (e : Int) < (s.size : Int) := by omega
                clear hb
                go_wp2_with fail
                refine (HBB.out _).mono ?_
                rintro ee w' ⟨rfl, hw'⟩
                obtain rfl : wr = w' := hw'.symm
                go_upto_region 17 with (fail)
              all_goals
                by_cases hie : e = i
                · subst hie
                  have g1 : decide ((e : Int) < (e : Int)) = false := decide_eq_false (by omega)
                  have g1' : decide (e < e) = false := decide_eq_false (by omega)
                  have HE3 := Lib.hid (show R = ([], e, 161) by rw [← HQ.out, HX.out, HE.out, HN.out, if_pos rfl])
                  have HF := Lib.hid HB.out.2.1
                  clear HE HX HQ HB HRW Hend HN
                  go_wp2
                  go_ret3
                  rw [HE3.out]
                  exact Splits.nil_ e 161 HF.out
                · have g1 : decide ((i : Int) < (e : Int)) = true := decide_eq_true (by omega)
                  have g1' : decide (i < e) = true := decide_eq_true (by omega)
                  obtain ⟨wd, hwd⟩ : ∃ wd, ((bs s).drop i).take (e - i) = wd := ⟨_, rfl⟩
                  have hO : oneW (bs s) i = .ok wd e := by rw [HE.out, HN.out, if_neg hie, hwd]
                  obtain ⟨hie2, hes2, hsp⟩ := Hend.out e wd hO
                  have hes3 : e ≤ s.size := hes2
                  have HNW := Lib.hid (show [Value.string (s.extract i e)] = [wd].map sv by rw [HXT.out, hwd]; rfl)
                  clear hO hbi HX HQ Hend hie HN HE HXT hwd
                  rcases hsp with ⟨h1, h2, HE2⟩ | ⟨h1 | ⟨h1, h2⟩, HQ2⟩
                  case' inl =>
                    have d2 : decide ((e : Int) < (s.size : Int)) = true := decide_eq_true (by omega)
                    have d2' : decide (e < s.size) = true := decide_eq_true h1
                    have hei : (e : Int) < (s.size : Int) := by omega
                    have e3 : (((s[e]'h1).toNat : Int) != 32) = true := by rw [bne_iff_ne]; omega
                    clear h2
                  case' inr.inl =>
                    have d2 : decide ((e : Int) < (s.size : Int)) = false := decide_eq_false (by omega)
                    have d2' : decide (e < s.size) = false := decide_eq_false h1
                  case' inr.inr =>
                    have d2 : decide ((e : Int) < (s.size : Int)) = true := decide_eq_true (by omega)
                    have d2' : decide (e < s.size) = true := decide_eq_true h1
                    have hei : (e : Int) < (s.size : Int) := by omega
                    have e3 : (((s[e]'h1).toNat : Int) != 32) = false := by rw [bne_eq_false_iff_eq]; omega
                    clear h2
                  all_goals try (exfalso; first | (have hz := of_decide_eq_false d0'; have hz2 := of_decide_eq_true d2'; omega) | (have hz := of_decide_eq_true d0'; have hz2 := of_decide_eq_false d2'; omega))
                  all_goals
                    go_wp2_with (at_builtin; refine wl_append _ rfl (.tmp 60) (.tmp 65) 22 rfl 9 _ 1 16 Try.underlying22 infoStr rfl (by decide) rb _ n (out.map sv) rfl (HRW.out _ ((Fr.refl No wr).alloc _)) (some ⟨wr.heap.size, 0, none⟩) 1 1 [.string (s.extract i e)] rfl rfl (fun _ => newVals wr [.string (s.extract i e)]) (by intro u hu; cases List.mem_singleton.1 hu; rfl) (by unfold maxLen; omega) (by omega) ?_; intro A6 c6 w6 rb6 hrow6 hF6 hnb6)
                    have HB6 := Lib.hid ((HB.out.quiet ((Fr.refl No wr).alloc _)).grow (k := [wd]) (by rw [← HNW.out]; exact hrow6) HL.out rfl hF6 hnb6)
                    have HL6 := Lib.hid (show (out ++ [wd]).length = n + 1 by rw [List.length_append, HL.out]; rfl)
                    clear hrow6 hF6 hnb6 HB HL
                    first
                      | (go_wp2; go_ret3; rw [HE2.out]; exact Splits.nil_ e 161 HB6.out.2.1)
                      | (go_wp2; go_roundw; (case rel => exact ⟨e, n + 1, out ++ [wd], A6, c6, rb6, rfl, rfl, hes3, by omega, HL6, HQ2, HB6⟩); (case measure => (simp [intOf]; omega)))
      · have HE := Lib.hid (show R = (out, 0, 0) by rw [← HQ.out, split_end (by rw [bs_len]; omega)])
        have d1 : decide ((i : Int) < (s.size : Int)) = false := decide_eq_false (by omega)
        have d1' : decide (i < s.size) = false := decide_eq_false hlt
        clear HQ
        go_wp2
        go_ret3
        rw [HE.out]
        exact HB.out.splits HL.out
end Go.Proofs.Ytdhlbdllidfenaa.Wd
