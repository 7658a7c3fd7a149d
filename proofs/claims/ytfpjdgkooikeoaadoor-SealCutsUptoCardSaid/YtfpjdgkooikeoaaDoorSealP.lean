/- The law SealBack: its walk. Conditions: none. -/
import Derived.Test.YtfpjdgkooikeoaaDoorSealO
import Derived.Deep.DeepCutAuto
namespace Go.Proofs.YtfpjdgkooikeoaaDoor.Sl
open Go.RowKit Go.Proofs.YtfpjdgkooikeoaaDoor.Mem
set_option linter.unusedVariables false
set_option linter.unusedSimpArgs false
theorem cell_fr {w w1 : World} (hf : Fr No w w1) {a : Addr} {v : Value} (h : w.cell? a = some v) : w1.cell? a = some v := (hf.to.cell (World.block_lt_of_cell? w a h)).trans h
set_option maxHeartbeats 4000000 in
set_option maxRecDepth 100000 in
theorem back_walk (P B R : Option Addr) (n bn rn pc bc rc : Nat) (cut : Int) (p beh raw : List UInt8) (w : World) (hl : p.length = n) (hbl : beh.length = bn) (hrl : raw.length = rn) (hn : n ≤ 140737488351232) (hbn : bn ≤ 140737488351232) (hrn : rn ≤ 140737488351232) (hrc : rn ≤ rc)
    (hP : BR Any w P p) (hB : BR Any w B beh) (hR : BR Any w R raw) (hT : Tab w) :
    Calls Tryd.prog 6 #[.agg #[.slice P n pc, .slice B bn bc, .slice R rn rc, .int .i64 cut]] w fun e w' => e = .returned (.bool true) ∧ Fr No w w' := by
  obtain ⟨w1, hw1⟩ : ∃ w1, w.alloc (.cells #[.slice P n pc, .slice B bn bc, .slice R rn rc, .int .i64 cut] 31 (0, 0)) = w1 := ⟨_, rfl⟩
  have hF1 : Fr No w w1 := by rw [← hw1]; exact (Fr.refl _ _).alloc _
  have hX : Bk w1 w.heap.size 31 [.slice P n pc, .slice B bn bc, .slice R rn rc, .int .i64 cut] := by rw [← hw1]; exact Bk.new _ _ _
  have HF1 := Lib.hid hF1
  have HP := Lib.hid (hP.fr hF1 (fun _ _ _ q => q))
  have HB := Lib.hid (hB.fr hF1 (fun _ _ _ q => q))
  have HR := Lib.hid (hR.fr hF1 (fun _ _ _ q => q))
  have HT := Lib.hid (hT.no hF1)
  have HL := Lib.hid hl
  have HBL := Lib.hid hbl
  have HRL := Lib.hid hrl
  have HSH := Lib.hid (shown w1 HT.out)
  obtain ⟨X, hXX⟩ : ∃ X, w.heap.size = X := ⟨_, rfl⟩
  rw [hXX] at hX
  have HV := Lib.hid (fun W (h : Fr No w1 W) => (hX.fr h id).four)
  have HXX := Lib.hid hXX
  clear hP hB hR hT hl hbl hrl hX hF1 hXX
  go_enter Tryd.func6, Tryd.ntmps6
  go_wp2_with fail
  rw [HXX.out]
  refine HSH.out.mono ?_
  rintro e w2 ⟨rfl, hF2⟩
  have HF2 := Lib.hid hF2
  have HOP := Lib.hid (sOpen R rn rc raw w2 HRL.out (by omega) hrc (HR.out.fr hF2 (fun _ _ _ q => q)) (HT.out.no hF2))
  obtain ⟨v0, v1, v2, v3, _⟩ := HV.out w2 hF2
  clear hF2 HSH hw1
  go_wp2_with fail
  refine HOP.out.mono ?_
  rintro e w3 ⟨A3, c3, rb3, rfl, hr3, _, hF3⟩
  have HF3 := Lib.hid (HF2.out.then_ hF3)
  have HR3 := Lib.hid hr3
  have HSO := Lib.hid (seal_open raw)
  obtain ⟨q, hq⟩ : ∃ q, openP raw = q := ⟨_, rfl⟩
  obtain ⟨E, hE⟩ : ∃ E, openE raw = E := ⟨_, rfl⟩
  rw [hq] at HR3 HSO ⊢
  rw [hE] at HSO ⊢
  clear hF3 hr3 HOP HF2 v0 v1 v2 v3 hq hE
  obtain ⟨m, hm⟩ : ∃ m, q.length = m := ⟨_, rfl⟩
  have HM := Lib.hid hm
  rw [hm] at HR3 HSO ⊢
  clear hm
  go_upto_if 21 with (fail)
  go_cut [5] (fun t wx => (∃ z, t = .int .i64 z) ∧ Hid (Fr No w1 wx))
  case first =>
    by_cases hz : E = 0
    · have bz : (E == 0) = true := by simpa using hz
      have HQ := Lib.hid (HSO.out hz)
      have hm6 : m ≤ 65536 := HQ.out.1
      have HSE := Lib.hid (sSeal A3 m c3 q w3 HM.out hm6 (Row.br (D := Any) HR3.out (fun _ _ => trivial)) (HT.out.no HF3.out))
      rw [HQ.out.2] at HSE
      have hmr : rn = m + 13 := by rw [← HRL.out, ← HQ.out.2, sealL_len, HM.out]
      clear HSO HR3 hz
      go_wp2_with fail
      refine HSE.out.mono ?_
      rintro e w4 ⟨g4, rfl, _, hB4, hF4⟩
      have HF4 := Lib.hid (HF3.out.then_ hF4)
      obtain ⟨v0, v1, v2, v3, _⟩ := HV.out w4 HF4.out
      have HSA := Lib.hid (same (some ⟨g4, 0, none⟩) R (m + 13) rn (m + 13) rc raw raw w4 (BR.of_block' hB4) (HR.out.fr HF4.out (fun _ _ _ q => q)) (by rw [HRL.out, hmr]) HRL.out (by omega) (by omega))
      rw [show decide (raw = raw) = true from decide_eq_true rfl] at HSA
      clear hB4 hF4 HSE HF3 hmr
      go_wp2_with fail
      refine HSA.out.mono ?_
      rintro e w5 ⟨rfl, hF5⟩
      have HF5 := Lib.hid (HF4.out.then_ hF5)
      clear hF5 HF4 HSA v0 v1 v2 v3
      go_wp2
      go_meet
      exact ⟨⟨_, rfl⟩, HF5⟩
    · have bz : (E == 0) = false := by simpa using hz
      clear hz HSO
      go_wp2
      go_meet
      exact ⟨⟨_, rfl⟩, HF3⟩
  case rest =>
    obtain ⟨⟨z0, rfl⟩, HF6⟩ := hcut
    obtain ⟨w6, rfl⟩ : ∃ w6, w6 = wc := ⟨_, rfl⟩
    clear HR3 HSO HF3 HM
    by_cases hbig : 65536 < n
    · have HLO := Lib.hid (sSeal_long P n pc w6 hbig (by omega))
      have d0 : decide ((65536 : Int) < (n : Int)) = true := decide_eq_true (by omega)
      have d0' : decide (65536 < n) = true := decide_eq_true hbig
      go_wp2_with fail
      refine HLO.out.mono ?_
      rintro e w7 ⟨rfl, rfl⟩
      go_wp2
      go_ret
      exact ⟨rfl, HF1.out.then_ HF6.out⟩
    have d0 : decide ((65536 : Int) < (n : Int)) = false := decide_eq_false (by omega)
    have d0' : decide (65536 < n) = false := decide_eq_false hbig
    have hw13 : IntKind.i64.wrap ((n : Int) + 13) = (n : Int) + 13 := IntWalk.i64_in _ (by omega)
    have hn6 : p.length ≤ 65536 := by rw [HL.out]; omega
    have HN6 := Lib.hid hn6
    have HSE := Lib.hid (sSeal P n pc p w6 HL.out (by omega) (HP.out.fr HF6.out (fun _ _ _ q => q)) (HT.out.no HF6.out))
    have hn65 : n ≤ 65536 := by omega
    clear hbig hn6
    go_wp2_with fail
    refine HSE.out.mono ?_
    rintro e w7 ⟨g, rfl, _, hB7, hF7⟩
    have HF7 := Lib.hid (HF6.out.then_ hF7)
    have HB7 := Lib.hid hB7
    have HOP := Lib.hid (sOpen (some ⟨g, 0, none⟩) (n + 13) (n + 13) (sealL p) w7 (by rw [sealL_len, HL.out]) (by omega) (Nat.le_refl _) (BR.of_block' hB7) (HT.out.no HF7.out))
    clear hF7 hB7 HSE HF6
    go_wp2_with fail
    refine HOP.out.mono ?_
    rintro e w8 ⟨A8, c8, rb8, rfl, hr8, _, hF8⟩
    rw [(open_seal p HN6.out).2, HL.out] at hr8 ⊢
    rw [(open_seal p HN6.out).1]
    have HF8 := Lib.hid (HF7.out.then_ hF8)
    have HB8 := Lib.hid (HB7.out.fr hF8 id)
    have HSA := Lib.hid (same A8 P n n c8 pc p p w8 (Row.br (D := Any) hr8 (fun _ _ => trivial)) (HP.out.fr HF8.out (fun _ _ _ q => q)) HL.out HL.out (by omega) (by omega))
    rw [show decide (p = p) = true from decide_eq_true rfl] at HSA
    clear hr8 hF8 HOP HF7 HB7
    go_wp2_with fail
    refine HSA.out.mono ?_
    rintro e w9 ⟨rfl, hF9⟩
    have HF9 := Lib.hid (HF8.out.then_ hF9)
    have HB9 := Lib.hid (HB8.out.fr hF9 id)
    obtain ⟨v0, v1, v2, v3, _⟩ := HV.out w9 HF9.out
    clear hF9 HF8 HB8 HSA
    go_upto_region 17 with (fail)
    go_cut [83] (fun t wx => t = .bool (decide (0 ≤ cut ∧ cut < (n : Int) + 13)) ∧ w9 = wx)
    case first =>
      by_cases h0 : 0 ≤ cut
      · have d1 : decide (0 ≤ cut) = true := decide_eq_true h0
        have HK := Lib.hid (show decide (0 ≤ cut ∧ cut < (n : Int) + 13) = decide (cut < (n : Int) + 13) by simp [h0])
        clear h0
        go_wp2
        go_meet
        exact ⟨congrArg Value.bool HK.out.symm, rfl⟩
      · have d1 : decide (0 ≤ cut) = false := decide_eq_false h0
        have HK := Lib.hid (show decide (0 ≤ cut ∧ cut < (n : Int) + 13) = false by simp [h0])
        clear h0
        go_wp2
        go_meet
        exact ⟨congrArg Value.bool HK.out.symm, rfl⟩
    case rest =>
      obtain ⟨rfl, rfl⟩ := hcut
      go_upto_if 83 with (fail)
      go_cut [5] (fun t wx => (∃ z, t = .int .i64 z) ∧ Hid (Fr No w1 wx) ∧ Hid (Bk wx g 5 (bv (sealL p))))
      case first =>
        by_cases hz : 0 ≤ cut ∧ cut < (n : Int) + 13
        · rw [decide_eq_true hz]
          obtain ⟨i, rfl⟩ := Int.eq_ofNat_of_zero_le hz.1
          have hi1 : i < n + 13 := by omega
          have hi2 : i ≤ n + 13 := by omega
          have hi3 : (i : Int) ≤ (n : Int) + 13 := by omega
          have hi0 : (0 : Int) ≤ (i : Int) := by omega
          have HOC := Lib.hid (open_cut p HN6.out i (by rw [HL.out]; exact hi1))
          have HOP := Lib.hid (sOpen (some ⟨g, 0, none⟩) i (n + 13) ((sealL p).take i) w9 (by rw [List.length_take, sealL_len, HL.out]; omega) (by omega) (by omega) (BR.take (BR.of_block' HB9.out) i) (HT.out.no HF9.out))
          clear hz
          go_wp2_with fail
          refine HOP.out.mono ?_
          rintro e w10 ⟨A10, c10, rb10, rfl, _, _, hF10⟩
          rw [openP_of HOC.out (by decide), HOC.out]
          have HF10 := Lib.hid (HF9.out.then_ hF10)
          have HB10 := Lib.hid (HB9.out.fr hF10 id)
          clear hF10 HF9 HB9 HOP v0 v1 v2 v3
          go_wp2
          go_meet
          exact ⟨⟨_, rfl⟩, HF10, HB10⟩
        · rw [decide_eq_false hz]
          clear hz
          go_wp2
          go_meet
          exact ⟨⟨_, rfl⟩, HF9, HB9⟩
      case rest =>
        clear v0 v1 v2 v3 HF9 HB9
        obtain ⟨⟨z1, rfl⟩, HF11, HB11⟩ := hcut
        obtain ⟨w11, rfl⟩ : ∃ w11, w11 = wc := ⟨_, rfl⟩
        have HCO := Lib.hid (copiedL (some ⟨g, 0, none⟩) (n + 13) (n + 13) (sealL p) w11 (by rw [sealL_len, HL.out]) (by omega) (BR.of_block' HB11.out))
        go_wp2_with fail
        refine HCO.out.mono ?_
        rintro e w12 ⟨A12, c12, rb12, rfl, hr12, hF12, hn12⟩
        have HF12 := Lib.hid (HF11.out.then_ hF12)
        have HR12 := Lib.hid hr12
        have HN12 := Lib.hid (show ∀ k, rb12 = some k → w1.heap.size ≤ k from fun k hk => Nat.le_trans HF11.out.size (hn12 k hk))
        obtain ⟨v0, v1, v2, v3, _⟩ := HV.out w12 HF12.out
        clear hr12 hF12 hn12 HCO HF11 HB11
        by_cases hb0 : 0 < bn
        · have d6 : decide ((0 : Int) < (bn : Int)) = true := decide_eq_true (by omega)
          have d6' : decide (0 < bn) = true := decide_eq_true hb0
          go_wp2_with (at_builtin; refine wl_append_big rfl (.tmp 101) (.tmp 103) rfl rfl rb12 _ (n + 13) (sealL p) rfl HR12.out (by omega) B bn bc beh rfl HBL.out (HB.out.fr HF12.out (fun _ _ _ q => q)) (by omega) (by omega) ?_; intro A13 c13 w13 rb13 hr13 hF13 hn13; have HF13 := Lib.hid (HF12.out.trans hF13 (fun j hj hk => by have := HN12.out j hk; omega)); obtain ⟨u0, u1, u2, u3, _⟩ := HV.out w13 HF13.out; have HR13 := Lib.hid hr13; clear v0 v1 v2 v3 hr13 hF13 hn13 HF12 HR12 HN12)
          have hc13 : n + 13 + bn ≤ c13 := by
            obtain ⟨_, _, hv, hle⟩ := HR13.out.val
            injection hv with _ _ e3
            omega
          refine (sOpen A13 (n + 13 + bn) c13 (sealL p ++ beh) w13 (by rw [List.length_append, sealL_len, HL.out, HBL.out]) (by omega) hc13 (Row.br (D := Any) HR13.out (fun _ _ => trivial)) (HT.out.no HF13.out)).mono ?_
          rintro e w14 ⟨A14, c14, rb14, rfl, _, _, hF14⟩
          have HOM := Lib.hid (open_more p beh HN6.out (by rw [HBL.out]; exact hb0))
          rw [openP_of HOM.out (by decide), HOM.out]
          have HF14 := Lib.hid (HF13.out.then_ hF14)
          clear hF14 HF13 HR13
          go_wp2
          go_ret
          exact ⟨rfl, HF1.out.then_ HF14.out⟩
        · have d6 : decide ((0 : Int) < (bn : Int)) = false := decide_eq_false (by omega)
          have d6' : decide (0 < bn) = false := decide_eq_false hb0
          go_wp2_with (at_builtin; refine wl_append_big rfl (.tmp 101) (.tmp 103) rfl rfl rb12 _ (n + 13) (sealL p) rfl HR12.out (by omega) B bn bc beh rfl HBL.out (HB.out.fr HF12.out (fun _ _ _ q => q)) (by omega) (by omega) ?_; intro A13 c13 w13 rb13 hr13 hF13 hn13; have HF13 := Lib.hid (HF12.out.trans hF13 (fun j hj hk => by have := HN12.out j hk; omega)); obtain ⟨u0, u1, u2, u3, _⟩ := HV.out w13 HF13.out; have HR13 := Lib.hid hr13; clear v0 v1 v2 v3 hr13 hF13 hn13 HF12 HR12 HN12)
          go_ret
          exact ⟨rfl, HF1.out.then_ HF13.out⟩
end Go.Proofs.YtfpjdgkooikeoaaDoor.Sl
