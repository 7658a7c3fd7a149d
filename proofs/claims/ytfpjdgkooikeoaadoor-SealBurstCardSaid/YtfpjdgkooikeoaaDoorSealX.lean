/- The law SealBurst: its walk. Conditions: none. -/
import Derived.Test.YtfpjdgkooikeoaaDoorSealW
import Derived.Test.YtfpjdgkooikeoaaDoorSealQ
namespace Go.Proofs.YtfpjdgkooikeoaaDoor.Sl
open Go.RowKit Go.Proofs.YtfpjdgkooikeoaaDoor.Mem
set_option linter.unusedVariables false
set_option linter.unusedSimpArgs false
set_option maxHeartbeats 4000000 in
set_option maxRecDepth 100000 in
theorem burst_walk (P : Option Addr) (n pc : Nat) (hb bb : Int) (hm bm : Nat) (p : List UInt8) (w : World) (hl : p.length = n) (hn : n ≤ 140737488351232) (hmb : hm < 4294967296) (bmb : bm < 4294967296) (hP : BR Any w P p) (hT : Tab w) :
    Calls Tryd.prog 8 #[.agg #[.slice P n pc, .int .i64 hb, .int .i64 bb, .int .u32 (hm : Int), .int .u32 (bm : Int)]] w fun e w' => e = .returned (.bool true) ∧ Fr No w w' := by
  obtain ⟨w1, hw1⟩ : ∃ w1, w.alloc (.cells #[.slice P n pc, .int .i64 hb, .int .i64 bb, .int .u32 (hm : Int), .int .u32 (bm : Int)] 38 (0, 0)) = w1 := ⟨_, rfl⟩
  have hF1 : Fr No w w1 := by rw [← hw1]; exact (Fr.refl _ _).alloc _
  have hX : Bk w1 w.heap.size 38 [.slice P n pc, .int .i64 hb, .int .i64 bb, .int .u32 (hm : Int), .int .u32 (bm : Int)] := by rw [← hw1]; exact Bk.new _ _ _
  have HF1 := Lib.hid hF1
  have HP := Lib.hid (hP.fr hF1 (fun _ _ _ q => q))
  have HT := Lib.hid (hT.no hF1)
  have HL := Lib.hid hl
  have HSH := Lib.hid (shown w1 HT.out)
  obtain ⟨X, hXX⟩ : ∃ X, w.heap.size = X := ⟨_, rfl⟩
  rw [hXX] at hX
  have HV := Lib.hid (fun W (h : Fr No w1 W) => show W.cell? ⟨X, 0, none⟩ = some (.slice P n pc) ∧ W.cell? ⟨X, 1, none⟩ = some (.int .i64 hb) ∧ W.cell? ⟨X, 2, none⟩ = some (.int .i64 bb) ∧ W.cell? ⟨X, 3, none⟩ = some (.int .u32 (hm : Int)) ∧ W.cell? ⟨X, 4, none⟩ = some (.int .u32 (bm : Int)) from
    ⟨(hX.fr h id).cell 0, (hX.fr h id).cell 1, (hX.fr h id).cell 2, (hX.fr h id).cell 3, (hX.fr h id).cell 4⟩)
  have HXX := Lib.hid hXX
  clear hP hT hl hX hF1 hXX
  by_cases hbig : 65536 < n
  · have HLO := Lib.hid (fun W => sSeal_long P n pc W hbig (by omega))
    have d0 : decide ((65536 : Int) < (n : Int)) = true := decide_eq_true (by omega)
    have d0' : decide (65536 < n) = true := decide_eq_true hbig
    go_enter Tryd.func8, Tryd.ntmps8
    go_wp2_with fail
    rw [HXX.out]
    refine HSH.out.mono ?_
    rintro e w2 ⟨rfl, hF2⟩
    obtain ⟨v0, v1, v2, v3, v4⟩ := HV.out w2 hF2
    have HF2 := Lib.hid hF2
    clear hF2 hw1
    go_wp2_with fail
    refine (HLO.out w2).mono ?_
    rintro e w3 ⟨rfl, rfl⟩
    go_wp2
    go_ret
    exact ⟨rfl, HF1.out.then_ HF2.out⟩
  have d0 : decide ((65536 : Int) < (n : Int)) = false := decide_eq_false (by omega)
  have d0' : decide (65536 < n) = false := decide_eq_false hbig
  have hn6 : n ≤ 65536 := by omega
  have hw13 : IntKind.i64.wrap ((n : Int) + 13) = (n : Int) + 13 := IntWalk.i64_in _ (by omega)
  have HSE := Lib.hid (fun W hA hT => sSeal P n pc p W HL.out hn6 hA hT)
  clear hbig
  by_cases hbad : hb < 0 ∨ 72 ≤ hb ∨ bb < 0 ∨ 8 * ((n : Int) + 13 - 9) ≤ bb
  · have hq : (decide (hb < 0) = true) ∨ (decide (hb < 0) = false ∧ decide (72 ≤ hb) = true) ∨ (decide (hb < 0) = false ∧ decide (72 ≤ hb) = false ∧ decide (bb < 0) = true) ∨ (decide (hb < 0) = false ∧ decide (72 ≤ hb) = false ∧ decide (bb < 0) = false ∧ decide (8 * ((n : Int) + 13 - 9) ≤ bb) = true) := by
      simp only [decide_eq_true_eq, decide_eq_false_iff_not]
      omega
    clear hbad
    rcases hq with d1 | ⟨d1, d2⟩ | ⟨d1, d2, d3⟩ | ⟨d1, d2, d3, d4⟩
    all_goals
      go_enter Tryd.func8, Tryd.ntmps8
      go_wp2_with fail
      rw [HXX.out]
      refine HSH.out.mono ?_
      rintro e w2 ⟨rfl, hF2⟩
      obtain ⟨v0, v1, v2, v3, v4⟩ := HV.out w2 hF2
      have HF2 := Lib.hid hF2
      clear hF2 hw1
      go_wp2_with fail
      refine (HSE.out w2 (HP.out.fr HF2.out (fun _ _ _ q => q)) (HT.out.no HF2.out)).mono ?_
      rintro e w3 ⟨g, rfl, hg, hB3, hF3⟩
      have HF3 := Lib.hid (HF2.out.then_ hF3)
      obtain ⟨u0, u1, u2, u3, u4⟩ := HV.out w3 HF3.out
      clear hg hB3 hF3 HF2 v0 v1 v2 v3 v4
      go_wp2
      go_ret
      exact ⟨rfl, HF1.out.then_ HF3.out⟩
  · obtain ⟨i, rfl⟩ := Int.eq_ofNat_of_zero_le (show 0 ≤ hb by omega)
    obtain ⟨j, rfl⟩ := Int.eq_ofNat_of_zero_le (show 0 ≤ bb by omega)
    have d1 : decide ((i : Int) < 0) = false := decide_eq_false (by omega)
    have d2 : decide (72 ≤ (i : Int)) = false := decide_eq_false (by omega)
    have d2' : decide (72 ≤ i) = false := decide_eq_false (by omega)
    have d3 : decide ((j : Int) < 0) = false := decide_eq_false (by omega)
    have d4 : decide (8 * ((n : Int) + 13 - 9) ≤ (j : Int)) = false := decide_eq_false (by omega)
    have hj : j ≤ 1000000 := by omega
    have hi : i ≤ 1000000 := by omega
    clear hbad
    go_enter Tryd.func8, Tryd.ntmps8
    go_wp2_with fail
    rw [HXX.out]
    refine HSH.out.mono ?_
    rintro e w2 ⟨rfl, hF2⟩
    obtain ⟨v0, v1, v2, v3, v4⟩ := HV.out w2 hF2
    have HF2 := Lib.hid hF2
    clear hF2 hw1
    go_wp2_with fail
    refine (HSE.out w2 (HP.out.fr HF2.out (fun _ _ _ q => q)) (HT.out.no HF2.out)).mono ?_
    rintro e w3 ⟨g, rfl, hg, hB3, hF3⟩
    have HF3 := Lib.hid (HF2.out.then_ hF3)
    obtain ⟨u0, u1, u2, u3, u4⟩ := HV.out w3 HF3.out
    have HCO := Lib.hid (copiedL (some ⟨g, 0, none⟩) (n + 13) (n + 13) (sealL p) w3 (by rw [sealL_len, HL.out]) (by omega) (BR.of_block' hB3))
    clear hg hB3 hF3 HF2 v0 v1 v2 v3 v4 HSE HSH
    go_wp2_with fail
    refine HCO.out.mono ?_
    rintro e w4 ⟨A4, c4, rb4, rfl, hr4, hF4, hn4⟩
    obtain ⟨g4, c4', rfl, hv4, hle4, _, _⟩ := hr4.at_ (by omega)
    injection hv4 with e1 _ e3
    subst e1 e3
    have HF4 := Lib.hid (HF3.out.then_ hF4)
    have HG4 := Lib.hid (show w1.heap.size ≤ g4 from Nat.le_trans HF3.out.size (hn4 g4 rfl))
    have HTU := Lib.hid (turn g4 (n + 13) c4 (sealL p) 0 9 i hm w4 hr4 (by rw [sealL_len, HL.out]) (by omega) hmb (by omega) hi (by omega))
    obtain ⟨v0, v1, v2, v3, v4⟩ := HV.out w4 HF4.out
    clear hr4 hF4 hn4 HCO HF3 u0 u1 u2 u3 u4
    go_wp2_with fail
    refine HTU.out.mono ?_
    rintro e w5 ⟨l5, N5, rfl, hr5, hi5, hF5⟩
    have HF5 := Lib.hid (HF4.out.trans hF5 (fun q hq hk => by have := HG4.out; omega))
    have HI5 := Lib.hid hi5
    have hN5 := hi5.le
    have HTV := Lib.hid (turn g4 (n + 13) c4 l5 9 (n + 13) j bm w5 hr5 (by rw [hi5.len, sealL_len, HL.out]) (Nat.le_refl _) bmb (by omega) hj (by omega))
    obtain ⟨u0, u1, u2, u3, u4⟩ := HV.out w5 HF5.out
    clear hr5 hi5 hF5 HTU HF4 v0 v1 v2 v3 v4
    go_wp2_with fail
    refine HTV.out.mono ?_
    rintro e w6 ⟨l6, N6, rfl, hr6, hi6, hF6⟩
    have HF6 := Lib.hid (HF5.out.trans hF6 (fun q hq hk => by have := HG4.out; omega))
    have HI6 := Lib.hid hi6
    have hN6 := hi6.le
    have HR6 := Lib.hid hr6
    have hwN : IntKind.i64.wrap ((N5 : Int) + (N6 : Int)) = (N5 : Int) + (N6 : Int) := IntWalk.i64_in _ (by omega)
    clear hr6 hi6 hF6 HTV HF5 u0 u1 u2 u3 u4
    by_cases hz : N5 = 0 ∧ N6 = 0
    · obtain ⟨rfl, rfl⟩ := hz
      go_wp2
      go_ret
      exact ⟨rfl, HF1.out.then_ HF6.out⟩
    · have bz : ((N5 : Int) + (N6 : Int) == 0) = false := by
        rw [beq_eq_false_iff_ne]
        omega
      have HE := Lib.hid (burst_told p l5 l6 (by rw [HL.out]; exact hn6) N5 N6 (8 * 0 + i) j hm bm HI5.out (by rw [HL.out]; exact HI6.out) hz)
      have HOP := Lib.hid (sOpen (some ⟨g4, 0, none⟩) (n + 13) c4 l6 w6 (by rw [HI6.out.len, HI5.out.len, sealL_len, HL.out]) (by omega) hle4 (Row.br (D := Any) HR6.out (fun _ _ => trivial)) (HT.out.no HF6.out))
      obtain ⟨E, hE⟩ : ∃ E, openE l6 = E := ⟨_, rfl⟩
      have HEE := Lib.hid hE
      have bE : (E != 0) = true := by rw [bne_iff_ne, ← hE]; exact HE.out
      clear hE hz
      go_wp2_with fail
      refine HOP.out.mono ?_
      rintro e w7 ⟨A7, c7, rb7, rfl, _, _, hF7⟩
      rw [openP_of HEE.out (by rw [← HEE.out]; exact HE.out), HEE.out]
      have HF7 := Lib.hid (HF6.out.then_ hF7)
      clear hF7
      go_wp2
      go_ret
      exact ⟨rfl, HF1.out.then_ HF7.out⟩
end Go.Proofs.YtfpjdgkooikeoaaDoor.Sl
