/- Words: how the reference writes a word, walked. Conditions: none. -/
import Derived.Test.YtdhlbdllidfenaaWdH
namespace Go.Proofs.Ytdhlbdllidfenaa.Wd
open Go.RowKit Go.Proofs.Ytdhlbdllidfenaa.Mem
set_option linter.unusedVariables false
set_option linter.unusedSimpArgs false
set_option maxHeartbeats 4000000 in
set_option maxRecDepth 100000 in
theorem rWritten (s : ByteArray) (hs : s.size ≤ 1000000000000) (w : World) : Calls Try.prog 34 #[.string s] w fun e w' => e = .returned (.string ⟨(wrW (bs s)).toArray⟩) ∧ Fr No w w' := by
  have HPL := Lib.hid (fun W => rIsBare s (by omega) W)
  cases hb : isBare (bs s) with
  | true =>
    rw [hb] at HPL
    have HE := Lib.hid (show wrW (bs s) = bs s by unfold wrW; rw [if_pos hb])
    clear hb
    go_enter Try.func34, Try.ntmps34
    go_wp2_with fail
    refine (HPL.out _).mono ?_
    rintro e w1 ⟨rfl, hF1⟩
    go_wp2
    go_ret
    exact ⟨by rw [HE.out, bs_mk]; rfl, hF1⟩
  | false =>
    rw [hb] at HPL
    have HE := Lib.hid (show wrW (bs s) = 34 :: (bs s).flatMap wrB ++ [34] by unfold wrW; rw [if_neg (by rw [hb]; simp)])
    clear hb
    go_enter Try.func34, Try.ntmps34
    go_wp2_with fail
    refine (HPL.out _).mono ?_
    rintro e w1 ⟨rfl, hF1⟩
    have HB0 := Lib.hid (show Buf w (w1.alloc (.cells #[.int .u8 34] 5 (0, 0))) (some w1.heap.size) (.slice (some ⟨w1.heap.size, 0, none⟩) 1 1) [34] from ⟨Row.shut (sp := []) (Bk.new w1 5 [.int .u8 34]) rfl rfl (Nat.le_refl _) (by unfold maxLen; omega), hF1.alloc _, fun k hk => by cases hk; exact hF1.size⟩)
    clear hF1 HPL
    go_wp2
    go_loopw [4, 5] (fun b i wr => ∃ (k n : Nat) (A : Option Addr) (c : Nat) (rb : Option Nat) (acc : List UInt8), b = .slice A n c ∧ i = .int .i64 (k : Int) ∧ k ≤ s.size ∧ n ≤ 4 * k + 1 ∧ Hid (acc.length = n) ∧ Hid (acc = 34 :: ((bs s).take k).flatMap wrB) ∧ Hid (Buf w wr rb (.slice A n c) acc)) (fun _ i _ => s.size - (intOf i).toNat)
    case atStart => exact ⟨0, 1, _, _, _, [34], rfl, rfl, Nat.zero_le _, Nat.le_refl _, rfl, rfl, HB0.out⟩
    case round =>
      clear HB0
      obtain ⟨k, n, A, c, rb, acc, rfl, rfl, hk, hn, HL, HA, HB⟩ := hrel
      have hwk : IntKind.i64.wrap ((k : Int) + 1) = (k : Int) + 1 := IntWalk.i64_in _ (by omega)
      by_cases hlt : k < s.size
      · have d1 : decide ((k : Int) < (s.size : Int)) = true := decide_eq_true (by omega)
        have d1' : decide (k < s.size) = true := decide_eq_true hlt
        have hki : (k : Int) < (s.size : Int) := by omega
        obtain ⟨ch, hch⟩ : ∃ ch, s[k]'hlt = ch := ⟨_, rfl⟩
        have hc255 : ch.toNat ≤ 255 := by have := ch.toNat_lt; omega
        have HM := Lib.hid (show acc ++ wrB ch = 34 :: ((bs s).take (k + 1)).flatMap wrB by
          have hki : k < (bs s).length := by rw [bs_len]; exact hlt
          rw [flat_more hki, HA.out, bs_get s k hlt, hch]; rfl)
        have HRW := Lib.hid (show ∀ W, Fr No wr W → Row W 5 1 rb (.slice A n c) n (bv acc) from fun W hW => by
          have := (HB.out.quiet hW).1
          rw [HL.out] at this
          exact this)
        clear HA
        by_cases q1 : ch.toNat = 34 ∨ ch.toNat = 92
        · have e1 : ((ch.toNat : Int) == 34) = true ∨ (((ch.toNat : Int) == 34) = false ∧ ((ch.toNat : Int) == 92) = true) := by
            simp only [beq_iff_eq, beq_eq_false_iff_ne]
            omega
          have HW := Lib.hid (show wrB ch = [92, ch] by unfold wrB; rw [if_pos q1])
          clear q1
          rcases e1 with e1 | ⟨e1, e2⟩
          all_goals
            go_wp2_with (at_builtin; refine wl_append _ rfl (.tmp 26) (.tmp 28) 43 rfl 5 _ 1 1 Try.underlying43 infoU8 rfl (by decide) rb _ n (bv acc) rfl (HRW.out _ ((Fr.refl No wr).alloc _)) (some ⟨wr.heap.size, 0, none⟩) 2 2 (bv [92, ch]) rfl rfl (fun _ => newCells wr (bv [92, ch])) (bv_one _) (by unfold maxLen; omega) (by omega) ?_; intro A6 c6 w6 rb6 hrow6 hF6 hnb6)
            have HB6 := Lib.hid ((HB.out.quiet ((Fr.refl No wr).alloc _)).grow (k := [92, ch]) hrow6 HL.out rfl hF6 hnb6)
            have HL6 := Lib.hid (show (acc ++ [92, ch]).length = n + 2 by rw [List.length_append, HL.out]; rfl)
            clear hrow6 hF6 hnb6 HB HL HRW
            go_wp2
            go_roundw
            case rel => exact ⟨k + 1, n + 2, A6, c6, rb6, _, rfl, by go_num, by omega, by omega, HL6, by show _ = _; rw [← HM.out, HW.out], HB6⟩
            case measure => simp [intOf]; omega
        · have e1 : ((ch.toNat : Int) == 34) = false := by rw [beq_eq_false_iff_ne]; omega
          have e2 : ((ch.toNat : Int) == 92) = false := by rw [beq_eq_false_iff_ne]; omega
          by_cases q2 : ch.toNat < 32 ∨ 126 < ch.toNat
          · have HW := Lib.hid (show wrB ch = [92, 120, hexD (ch.toNat / 16), hexD (ch.toNat % 16)] by unfold wrB; rw [if_neg q1, if_pos q2])
            have hd : (decide (32 ≤ (ch.toNat : Int)) = false) ∨ (decide (32 ≤ (ch.toNat : Int)) = true ∧ decide ((ch.toNat : Int) ≤ 126) = false) := by
              simp only [decide_eq_true_eq, decide_eq_false_iff_not]
              omega
            obtain ⟨hi, hhi⟩ : ∃ hi, ch.toNat / 16 = hi := ⟨_, rfl⟩
            obtain ⟨lo, hlo⟩ : ∃ lo, ch.toNat % 16 = lo := ⟨_, rfl⟩
            have f1 : (ch.toNat : Int) / 16 = (hi : Int) := by omega
            have f2 : (ch.toNat : Int) % 16 = (lo : Int) := by omega
            have f1' : (ch.toNat : Int).tdiv 16 = (hi : Int) := by rw [Int.tdiv_eq_ediv_of_nonneg (by omega)]; exact f1
            have f2' : (ch.toNat : Int).tmod 16 = (lo : Int) := by rw [Int.tmod_eq_emod_of_nonneg (by omega)]; exact f2
            have f3 : IntKind.u8.wrap (hi : Int) = (hi : Int) := by show (hi : Int) % 256 = _; omega
            have f4 : IntKind.u8.wrap (lo : Int) = (lo : Int) := by show (lo : Int) % 256 = _; omega
            have b1 : (hi : Int) < 16 := by omega
            have b2 : (lo : Int) < 16 := by omega
            have b1' : hi < 16 := by omega
            have b2' : lo < 16 := by omega
            rw [hhi, hlo] at HW
            have x1 := hex_at hi
            have x2 := hex_at lo
            clear hhi hlo
            clear q1 q2
            rcases hd with e3 | ⟨e3, e4⟩
            all_goals
              go_wp2
              go_region_law (first | (refine st_append _ rfl (.tmp 40) (.tmp 49) 43 rfl 5 _ 1 1 Try.underlying43 infoU8 rfl (by decide) rb _ n (bv acc) rfl (HRW.out _ (((Fr.refl No wr).drew).alloc _)) (some ⟨wr.heap.size, 0, none⟩) 4 4 (bv [92, 120, hexD hi, hexD lo]) rfl rfl (fun _ => newCells wr.drew (bv [92, 120, hexD hi, hexD lo])) (bv_one _) (by unfold maxLen; omega) (by omega) ?_; intro A6 c6 w6 rb6 hrow6 hF6 hnb6))
              all_goals
                have HB6 := Lib.hid ((HB.out.quiet (((Fr.refl No wr).drew).alloc _)).grow (k := [92, 120, hexD hi, hexD lo]) hrow6 HL.out rfl hF6 hnb6)
                have HL6 := Lib.hid (show (acc ++ [92, 120, hexD hi, hexD lo]).length = n + 4 by rw [List.length_append, HL.out]; rfl)
                clear hrow6 hF6 hnb6 HB HL HRW
                go_wp2
                go_roundw
                case rel => exact ⟨k + 1, n + 4, A6, c6, rb6, _, rfl, by go_num, by omega, by omega, HL6, by show _ = _; rw [← HM.out, HW.out], HB6⟩
                case measure => simp [intOf]; omega
          · have HW := Lib.hid (show wrB ch = [ch] by unfold wrB; rw [if_neg q1, if_neg q2])
            have e3 : decide (32 ≤ (ch.toNat : Int)) = true := decide_eq_true (by omega)
            have e4 : decide ((ch.toNat : Int) ≤ 126) = true := decide_eq_true (by omega)
            clear q1 q2
            go_wp2_with (at_builtin; refine wl_append _ rfl (.tmp 36) (.tmp 38) 43 rfl 5 _ 1 1 Try.underlying43 infoU8 rfl (by decide) rb _ n (bv acc) rfl (HRW.out _ ((Fr.refl No wr).alloc _)) (some ⟨wr.heap.size, 0, none⟩) 1 1 (bv [ch]) rfl rfl (fun _ => newCells wr (bv [ch])) (bv_one _) (by unfold maxLen; omega) (by omega) ?_; intro A6 c6 w6 rb6 hrow6 hF6 hnb6)
            have HB6 := Lib.hid ((HB.out.quiet ((Fr.refl No wr).alloc _)).grow (k := [ch]) hrow6 HL.out rfl hF6 hnb6)
            have HL6 := Lib.hid (show (acc ++ [ch]).length = n + 1 by rw [List.length_append, HL.out]; rfl)
            clear hrow6 hF6 hnb6 HB HL HRW
            go_wp2
            go_roundw
            case rel => exact ⟨k + 1, n + 1, A6, c6, rb6, _, rfl, by go_num, by omega, by omega, HL6, by show _ = _; rw [← HM.out, HW.out], HB6⟩
            case measure => simp [intOf]; omega
      · obtain rfl : k = s.size := by omega
        have d1 : decide ((s.size : Int) < (s.size : Int)) = false := decide_eq_false (by omega)
        have d1' : decide (s.size < s.size) = false := decide_eq_false (by omega)
        have HRW := Lib.hid (show ∀ W, Fr No wr W → Row W 5 1 rb (.slice A n c) n (bv acc) from fun W hW => by
          have := (HB.out.quiet hW).1
          rw [HL.out] at this
          exact this)
        have HQ := Lib.hid (show wrW (bs s) = acc ++ [34] by rw [HE.out, HA.out, List.take_of_length_le (by rw [bs_len]; exact Nat.le_refl _)])
        clear HA HE
        go_wp2_with (at_builtin; refine wl_append _ rfl (.tmp 51) (.tmp 52) 43 rfl 5 _ 1 1 Try.underlying43 infoU8 rfl (by decide) rb _ n (bv acc) rfl (HRW.out _ ((Fr.refl No wr).alloc _)) (some ⟨wr.heap.size, 0, none⟩) 1 1 (bv [34]) rfl rfl (fun _ => newCells wr (bv [34])) (bv_one _) (by unfold maxLen; omega) (by omega) ?_; intro A6 c6 w6 rb6 hrow6 hF6 hnb6)
        have HB6 := Lib.hid ((HB.out.quiet ((Fr.refl No wr).alloc _)).grow (k := [34]) hrow6 HL.out rfl hF6 hnb6)
        have HL6 := Lib.hid (show (acc ++ [34]).length = n + 1 by rw [List.length_append, HL.out]; rfl)
        have cv := HB6.out.conv HL6.out
        rw [← HQ.out] at cv
        have HF6 := Lib.hid HB6.out.2.1
        clear hrow6 hF6 hnb6 HB HL HRW HB6 HQ
        go_wp2
        rw [cv]
        simp only [Result.andThen]
        rw [Oper.upon_value]
        go_wp2
        go_ret
        exact ⟨rfl, HF6.out⟩
end Go.Proofs.Ytdhlbdllidfenaa.Wd
