/- The law SealRow: its walk. Conditions: none. -/
import Derived.Test.YtfpjdgkooikeoaaDoorStrG
import Derived.Deep.DeepCutAuto
namespace Go.Proofs.YtfpjdgkooikeoaaDoor.Sl
open Go.RowKit Go.Proofs.YtfpjdgkooikeoaaDoor.Mem Go.Proofs.YtfpjdgkooikeoaaDoor.Opn
set_option linter.unusedVariables false
set_option linter.unusedSimpArgs false
set_option maxHeartbeats 8000000 in
set_option maxRecDepth 100000 in
theorem row_walk (A B : Option Addr) (np nb ca cb : Nat) (xs ys : List HL) (w : World) (hx : xs.length = np) (hy : ys.length = nb) (hnp : np ≤ 5864062014634) (hnb : nb ≤ 5864062014634) (hA : LL w A xs) (hB : LL w B ys) (hT : Tab w) :
    Calls Tryd.prog 10 #[.slice A np ca, .slice B nb cb] w fun e w' => e = .returned (.bool true) ∧ Fr No w w' := by
  have HA := Lib.hid hA
  have HB := Lib.hid hB
  have HT := Lib.hid hT
  have HX := Lib.hid hx
  have HY := Lib.hid hy
  have H1 := added 0 A np ca xs w hx (by omega) hA
  rw [show ((capB 0 : Nat) : Int) = 0 from rfl, Nat.zero_add] at H1
  have H2 := added (wt xs) B nb cb ys w hy (by omega) hB
  obtain ⟨t1, ht1⟩ : ∃ t1, capB (wt xs) = t1 := ⟨_, rfl⟩
  obtain ⟨t2, ht2⟩ : ∃ t2, capB (wt xs + wt ys) = t2 := ⟨_, rfl⟩
  rw [ht1] at H1 H2
  rw [ht2] at H2
  have H1 := Lib.hid H1
  have H2 := Lib.hid H2
  by_cases hbig : 2147483647 < t2
  · have d0 : decide ((2147483647 : Int) < (t2 : Int)) = true := decide_eq_true (by omega)
    clear hA hB hT hx hy ht1 ht2
    go_enter Tryd.func10, Tryd.ntmps10
    go_wp2_with fail
    refine H1.out.mono ?_
    rintro e w1 ⟨rfl, rfl⟩
    go_wp2_with fail
    refine H2.out.mono ?_
    rintro e w2 ⟨rfl, rfl⟩
    go_wp2
    go_ret
    exact ⟨rfl, Fr.refl _ _⟩
  have d0 : decide ((2147483647 : Int) < (t2 : Int)) = false := decide_eq_false (by omega)
  have hsum : wt xs + wt ys ≤ 2147483647 := by unfold capB at ht2; omega
  have hnp2 : np ≤ 2147483647 := by have := wt_len xs; omega
  have hnb2 : nb ≤ 2147483647 := by have := wt_len ys; omega
  have HSUM := Lib.hid hsum
  have HSH := Lib.hid (shown w hT)
  clear hA hB hT hx hy ht1 ht2 hbig hsum
  go_enter Tryd.func10, Tryd.ntmps10
  go_wp2_with fail
  refine H1.out.mono ?_
  rintro e w1 ⟨rfl, rfl⟩
  go_wp2_with fail
  refine H2.out.mono ?_
  rintro e w2 ⟨rfl, rfl⟩
  clear H1 H2
  go_wp2_with fail
  refine HSH.out.mono ?_
  rintro e w3 ⟨rfl, hF3⟩
  have HF3 := Lib.hid hF3
  have HNW := Lib.hid (sNew2 w3 (HT.out.no hF3))
  clear hF3 HSH
  go_wp2_with fail
  refine HNW.out.mono ?_
  rintro e w4 ⟨rfl, hF4, hS4, hlt4⟩
  have HR4 := Lib.hid (show RI w2 (w4.alloc (.cells #[] 22 (0, 0))) w3.heap.size 0 [] [] none (.slice (some ⟨w4.heap.size, 0, none⟩) 0 0) from
    (RI.mk ⟨none, [], hS4, rfl, (fun k hk => by cases hk), (fun k hk => by cases hk)⟩ (Row.no _ _ _ _) (fun k hk => by cases hk) HF3.out.size (HF3.out.then_ hF4)).no ((Fr.refl No w4).alloc _))
  clear hF4 hS4 HNW HF3
  obtain ⟨sb, hsb⟩ : ∃ sb, w3.heap.size = sb := ⟨_, rfl⟩
  rw [hsb] at HR4 hlt4 ⊢
  clear hsb
  go_wp2
  generalize w4.alloc (Obj.cells #[] 22) = wB at *
  obtain ⟨X0, hX0⟩ : ∃ X0, w4.heap.size = X0 := ⟨_, rfl⟩
  rw [hX0] at HR4 ⊢
  clear hX0 hlt4
  go_loopw [6, 7, 8] (fun v6 v7 v8 wr => ∃ (i J gw N cw : Nat) (ws : List HL) (rbw : Option Nat), v8 = .int .i64 (i : Int) ∧ v7 = .int .i64 (J : Int) ∧ v6 = .slice (some ⟨gw, 0, none⟩) N cw ∧ i ≤ max np nb ∧ N ≤ i ∧ Hid (ws.length = N) ∧ Hid (J ≤ wt (ys.take i)) ∧ Hid (RI w2 wr sb J (ws.map HL.d) ws rbw (.slice (some ⟨gw, 0, none⟩) N cw)) ∧ Hid (∀ z ∈ ws, GoodB w2 z.A z.d z.c ∧ z.d.length ≤ 65536)) (fun _ _ v8 _ => max np nb - (intOf v8).toNat)
  case atStart => exact ⟨0, 0, _, 0, 0, [], none, rfl, rfl, rfl, Nat.zero_le _, Nat.le_refl _, rfl, Nat.zero_le _, HR4, fun z hz => by cases hz⟩
  case round =>
    clear HR4
    obtain ⟨i, J, gw, N, cw, ws, rbw, rfl, rfl, rfl, hi, hNi, HWL, HJ, HR, HWS⟩ := hrel
    have hw : IntKind.i64.wrap ((i : Int) + 1) = (i : Int) + 1 := IntWalk.i64_in _ (by omega)
    have hJb : J ≤ 2147483647 := by have h1 := HJ.out; have h2 := wt_le ys i; have h3 := HSUM.out; omega
    by_cases hlt : i < np ∨ i < nb
    · have HLT := Lib.hid hlt
      have hcut : (decide ((i : Int) < (np : Int)) = true ∧ decide (i < np) = true) ∨ ((decide ((i : Int) < (np : Int)) = false ∧ decide (i < np) = false) ∧ (decide ((i : Int) < (nb : Int)) = true ∧ decide (i < nb) = true)) := by
        simp only [decide_eq_true_eq, decide_eq_false_iff_not]
        omega
      clear hlt
      rcases hcut with ⟨d1, d1'⟩ | ⟨⟨d1, d1'⟩, d2, d2'⟩
      all_goals
        go_upto_if 45 with (fail)
        clear d1 d1'
        go_cut [7] (fun v7 wx => ∃ J2 : Nat, v7 = .int .i64 (J2 : Int) ∧ Hid (J2 ≤ wt (ys.take (i + 1))) ∧ Hid (RI w2 wx sb J2 (ws.map HL.d) ws rbw (.slice (some ⟨gw, 0, none⟩) N cw)))
        case first =>
          by_cases h2 : i < nb
          · have d2 : decide ((i : Int) < (nb : Int)) = true := decide_eq_true (by omega)
            have d2' : decide (i < nb) = true := decide_eq_true h2
            have hii : (i : Int) < (nb : Int) := by omega
            obtain ⟨y, hyi⟩ : ∃ y, ys[i]? = some y := ⟨_, List.getElem?_eq_getElem (by rw [HY.out]; exact h2)⟩
            have HWT := Lib.hid (wt_take ys i y hyi)
            obtain ⟨⟨aB, rfl, x0⟩, gy1, gy2, gy3⟩ := HB.out i y hyi
            obtain ⟨yA, yc, yb, yd⟩ := y
            unfold HL.v at x0
            dsimp only at x0 gy1 gy2 gy3 HWT
            obtain ⟨m, hm⟩ : ∃ m, yd.length = m := ⟨_, rfl⟩
            have HM := Lib.hid hm
            have HYR := Lib.hid gy1
            rw [hm] at x0 gy2 HWT
            try rw [d2']
            have HX0 := Lib.hid (fun W (h : Fr No w2 W) => cell_fr h x0)
            have hmb : m ≤ 2147483647 := by have h1 := HWT.out; have h2 := wt_le ys (i + 1); have h3 := HSUM.out; omega
            clear x0 gy1 hyi hm
            go_wp2
            go_loopw [7, 9] (fun v7 v9 wq => ∃ (k J2 : Nat), v7 = .int .i64 (J2 : Int) ∧ v9 = .int .i64 (k : Int) ∧ k ≤ m ∧ J2 ≤ J + k ∧ Hid (RI w2 wq sb J2 (ws.map HL.d) ws rbw (.slice (some ⟨gw, 0, none⟩) N cw))) (fun _ v9 _ => m - (intOf v9).toNat)
            case atStart => exact ⟨0, J, rfl, rfl, Nat.zero_le _, by omega, HR⟩
            case round =>
              clear HR
              obtain ⟨k, J2, rfl, rfl, hk, hJ2, HR⟩ := hrel
              have hwk : IntKind.i64.wrap ((k : Int) + 1) = (k : Int) + 1 := IntWalk.i64_in _ (by omega)
              have hwJ : IntKind.i64.wrap ((J2 : Int) + 1) = (J2 : Int) + 1 := IntWalk.i64_in _ (by omega)
              have x0 := HX0.out wr HR.out.fr
              by_cases hkm : k < m
              · have dk : decide ((k : Int) < (m : Int)) = true := decide_eq_true (by omega)
                have dk' : decide (k < m) = true := decide_eq_true hkm
                have hki : (k : Int) < (m : Int) := by omega
                have hyr := HYR.out.fr HR.out.fr (fun _ _ _ q => q)
                obtain ⟨ad, rfl, b00⟩ := hyr.at_ 0 (by rw [HM.out]; omega)
                rw [show ad.add 0 = ad from rfl] at b00
                obtain ⟨k0, o0, rfl⟩ := spot b00
                obtain ⟨_, hq, b0⟩ := hyr.at_ k (by rw [HM.out]; exact hkm)
                cases hq
                obtain ⟨x, hx⟩ : ∃ x, yd[k]'(by rw [HM.out]; exact hkm) = x := ⟨_, rfl⟩
                rw [hx, Addr.add_lit] at b0
                have HBX := Lib.hid (show BR Any wr (some ⟨k0, o0 + k, none⟩) [x] by
                  have := BR.sub hyr k 1
                  rw [List.drop_eq_getElem_cons (by rw [HM.out]; exact hkm), hx] at this
                  exact this)
                clear hyr b00 hx
                by_cases hx46 : x = 0x46
                · subst hx46
                  have b0' : wr.cell? ⟨k0, o0 + k, none⟩ = some (.int .u8 70) := b0
                  clear b0
                  go_wp2
                  go_roundw
                  case rel => exact ⟨k + 1, J2, rfl, by go_num, by omega, by omega, HR⟩
                  case measure => simp [intOf]; omega
                · have hb : ((x.toNat : Int) != 70) = true := by simpa using u8_int_ne (k := 70) (by omega) hx46
                  have HFE := Lib.hid (HR.out.junk x hx46 (some ⟨k0, o0 + k, none⟩) (yc - k) (by omega) (by rw [List.length_map, HWL.out]; omega) HBX.out HT.out)
                  have hk1c : k + 1 ≤ yc := by omega
                  have hk1ci : (k : Int) + 1 ≤ (yc : Int) := by omega
                  have hkk1 : (k : Int) ≤ (k : Int) + 1 := by omega
                  have hkz : (0 : Int) ≤ (k : Int) + 1 := by omega
                  have htn : ((k : Int) + 1).toNat = k + 1 := by omega
                  have hkyc : ¬ (yc = k) := by omega
                  generalize x.toNat = X at *
                  clear hx46 HBX HR
                  go_wp2_with fail
                  refine HFE.out.mono ?_
                  rintro e w5 ⟨rfl, hr5⟩
                  have HR5 := Lib.hid hr5
                  clear hr5 HFE x0 b0
                  go_wp2
                  go_roundw
                  case rel => first | exact ⟨k + 1, J2 + 1, by go_num, by go_num, by omega, by omega, HR5⟩ | ((repeat apply Exists.intro); exact ⟨⟨k + 1, J2 + 1, by go_num, by go_num, by omega, by omega, HR5⟩, rfl⟩)
                  case measure => simp [intOf]; omega
              · obtain rfl : m = k := by omega
                have dk : decide ((m : Int) < (m : Int)) = false := decide_eq_false (by omega)
                clear hkm
                go_wp2
                go_meet
                exact ⟨J2, rfl, by have h1 := HWT.out; have h2 := HJ.out; show J2 ≤ _; omega, HR⟩
          · first
            | exact absurd (of_decide_eq_true d2') h2
            | (have d2 : decide ((i : Int) < (nb : Int)) = false := decide_eq_false (by omega)
               have d2' : decide (i < nb) = false := decide_eq_false h2
               have HJ' := Lib.hid (show J ≤ wt (ys.take (i + 1)) by
                 have h1 := HJ.out
                 rw [List.take_of_length_le (by have := HY.out; omega)] at h1 ⊢
                 exact h1)
               go_wp2
               go_meet
               exact ⟨J, rfl, HJ', HR⟩)
        case rest =>
          obtain ⟨J2, rfl, HJ2, HR2⟩ := hcut
          clear HJ HR
          have hJ2b : J2 ≤ 2147483647 := by have h1 := HJ2.out; have h2 := wt_le ys (i + 1); have h3 := HSUM.out; omega
          have hgo : (i < np ∧ ∃ x, xs[i]? = some x ∧ x.d.length ≤ 65536) ∨ (i < np ∧ ∃ x, xs[i]? = some x ∧ 65536 < x.d.length) ∨ ¬ i < np := by
            by_cases h : i < np
            · have hx : xs[i]? = some (xs[i]'(by rw [HX.out]; exact h)) := List.getElem?_eq_getElem (by rw [HX.out]; exact h)
              by_cases h2 : (xs[i]'(by rw [HX.out]; exact h)).d.length ≤ 65536
              · exact .inl ⟨h, _, hx, h2⟩
              · exact .inr (.inl ⟨h, _, hx, by omega⟩)
            · exact .inr (.inr h)
          rcases hgo with ⟨h1, x, hxi, hxl⟩ | ⟨h1, x, hxi, hxl⟩ | h1
          · have d1 : decide ((i : Int) < (np : Int)) = true := decide_eq_true (by omega)
            have d1' : decide (i < np) = true := decide_eq_true h1
            have hii : (i : Int) < (np : Int) := by omega
            obtain ⟨⟨aA, rfl, x0⟩, gx1, gx2, gx3⟩ := HA.out i x hxi
            obtain ⟨xA, xc, xb, xd⟩ := x
            unfold HL.v at x0
            dsimp only at x0 gx1 gx2 gx3 hxl
            obtain ⟨m, hm⟩ : ∃ m, xd.length = m := ⟨_, rfl⟩
            have HM := Lib.hid hm
            have HGX := Lib.hid gx1
            rw [hm] at x0 gx2 hxl
            have hGB : Hid (GoodB w2 xA xd xc ∧ xd.length ≤ 65536) := ⟨⟨gx1, by omega, gx3⟩, by omega⟩
            have HX0 := Lib.hid (fun W (h : Fr No w2 W) => cell_fr h x0)
            have x1 := HX0.out _ HR2.out.fr
            have d2 : decide ((m : Int) ≤ 65536) = true := decide_eq_true (by omega)
            have HSE := Lib.hid (sSeal xA m xc xd _ HM.out hxl (HGX.out.fr HR2.out.fr (fun _ _ _ q => q)) (HT.out.no HR2.out.fr))
            clear x0 gx1 hxi hm
            go_wp2_with fail
            refine HSE.out.mono ?_
            rintro e w5 ⟨gs, rfl, hgs, hB5, hF5⟩
            have HR5 := Lib.hid (HR2.out.no hF5)
            have HFE := Lib.hid (HR5.out.seal_ xd m HM.out hxl (some ⟨gs, 0, none⟩) (m + 13) (by omega) (by rw [List.length_map, HWL.out]; omega) (BR.of_block' hB5) HT.out)
            clear hgs hB5 hF5 HSE HR2 x1
            go_wp2_with fail
            refine HFE.out.mono ?_
            rintro e w6 ⟨rfl, hr6⟩
            have HR6 := Lib.hid hr6
            clear hr6 HFE HR5
            have x1 := HX0.out _ HR6.out.fr
            have HR7 := Lib.hid (HR6.out.no ((Fr.refl No w6).alloc (.cells #[.slice xA m xc] 22 (0, 0))))
            have HNEW := Lib.hid (fun (_ : 0 < 1) => show ∃ ad, some (⟨w6.heap.size, 0, none⟩ : Addr) = some ad ∧ ∀ (j : Nat) (u : Value), [Value.slice xA m xc][j]? = some u → (w6.alloc (.cells #[.slice xA m xc] 22 (0, 0))).cell? (ad.add j) = some u from ⟨_, rfl, fun j u hj => by rw [add0]; exact ((Bk.new w6 22 [Value.slice xA m xc]).cell j).trans hj⟩)
            have HROW := Lib.hid (show Row _ 22 1 rbw (.slice (some ⟨gw, 0, none⟩) N cw) N (ws.map HL.v) by have := HR7.out.row; rwa [HWL.out] at this)
            clear HR6
            go_wp2_with (at_builtin; refine wl_append _ rfl (.tmp 100) (.tmp 105) 45 rfl 22 _ 1 24 Tryd.underlying45 infoBys rfl (by decide) rbw _ N (ws.map HL.v) rfl HROW.out (some ⟨w6.heap.size, 0, none⟩) 1 1 [Value.slice xA m xc] rfl rfl HNEW.out (by simp [Value.oneCell']) (by unfold maxLen; omega) (by omega) ?_; intro A8 c8 w8 rb8 hrow8 hF8 hnb8)
            obtain ⟨g8, c8', hrb8, hv8, _⟩ := hrow8.at_ (by omega)
            injection hv8 with e1 _ e3
            subst e1 e3
            have HR8 := Lib.hid (HR7.out.push ⟨xA, xc, none, xd⟩ hF8 (by
              rw [HWL.out]
              show Row _ 22 1 rb8 _ (N + 1) (ws.map HL.v ++ [Value.slice xA xd.length xc])
              rw [HM.out]
              exact hrow8) hnb8)
            clear hrow8 hF8 hnb8 hrb8 HROW HNEW HR7 x1
            go_wp2
            go_roundw
            case rel => first | exact ⟨i + 1, J2, g8, N + 1, c8, ws ++ [⟨xA, xc, none, xd⟩], rb8, by go_num, rfl, by first | rfl | go_num, by omega, by omega, by show (ws ++ [_]).length = _; rw [List.length_append, HWL.out]; rfl, HJ2, by rw [List.map_append]; exact HR8, fun z hz => by
              rcases List.mem_append.1 hz with hz | hz
              · exact HWS.out z hz
              · rw [List.mem_singleton.1 hz]; exact hGB.out⟩ | ((repeat apply Exists.intro); exact ⟨⟨i + 1, J2, g8, N + 1, c8, ws ++ [⟨xA, xc, none, xd⟩], rb8, by go_num, rfl, by first | rfl | go_num, by omega, by omega, by show (ws ++ [_]).length = _; rw [List.length_append, HWL.out]; rfl, HJ2, by rw [List.map_append]; exact HR8, fun z hz => by
              rcases List.mem_append.1 hz with hz | hz
              · exact HWS.out z hz
              · rw [List.mem_singleton.1 hz]; exact hGB.out⟩, rfl⟩)
            case measure => simp [intOf]; omega
          · have d1 : decide ((i : Int) < (np : Int)) = true := decide_eq_true (by omega)
            have d1' : decide (i < np) = true := decide_eq_true h1
            have hii : (i : Int) < (np : Int) := by omega
            obtain ⟨⟨aA, rfl, x0⟩, gx1, gx2, gx3⟩ := HA.out i x hxi
            unfold HL.v at x0
            obtain ⟨m, hm⟩ : ∃ m, x.d.length = m := ⟨_, rfl⟩
            rw [hm] at x0 hxl
            have x1 := cell_fr HR2.out.fr x0
            have d2 : decide ((m : Int) ≤ 65536) = false := decide_eq_false (by omega)
            clear x0 gx1 hxi gx2 gx3 hm
            go_wp2
            go_roundw
            case rel => first | exact ⟨i + 1, J2, gw, N, cw, ws, rbw, by go_num, rfl, rfl, by omega, by omega, HWL, HJ2, HR2, HWS⟩ | ((repeat apply Exists.intro); exact ⟨⟨i + 1, J2, gw, N, cw, ws, rbw, by go_num, rfl, rfl, by omega, by omega, HWL, HJ2, HR2, HWS⟩, rfl⟩)
            case measure => simp [intOf]; omega
          · have d1 : decide ((i : Int) < (np : Int)) = false := decide_eq_false (by omega)
            have d1' : decide (i < np) = false := decide_eq_false h1
            have him : i < max np nb := by have := HLT.out; omega
            go_wp2
            go_roundw
            case rel => first | exact ⟨i + 1, J2, gw, N, cw, ws, rbw, by go_num, rfl, rfl, by omega, by omega, HWL, HJ2, HR2, HWS⟩ | ((repeat apply Exists.intro); exact ⟨⟨i + 1, J2, gw, N, cw, ws, rbw, by go_num, rfl, rfl, by omega, by omega, HWL, HJ2, HR2, HWS⟩, rfl⟩)
            case measure => simp [intOf]; omega
    · have d1 : decide ((i : Int) < (np : Int)) = false := decide_eq_false (by omega)
      have d2 : decide ((i : Int) < (nb : Int)) = false := decide_eq_false (by omega)
      have d1' : decide (i < np) = false := decide_eq_false (by omega)
      have d2' : decide (i < nb) = false := decide_eq_false (by omega)
      have d1n : ¬ i < np := by omega
      have d2n : ¬ i < nb := by omega
      clear hlt
      go_wp2
      go_loopw [12] (fun v wq => ∃ k : Nat, v = .int .i64 (k : Int) ∧ k ≤ N ∧ Hid (RI w2 wq sb J ((ws.map HL.d).drop k) ws rbw (.slice (some ⟨gw, 0, none⟩) N cw))) (fun v _ => N - (intOf v).toNat)
      case atStart => exact ⟨0, rfl, Nat.zero_le _, HR⟩
      case round =>
        clear HR
        obtain ⟨k, rfl, hk, HR⟩ := hrel
        have hwk : IntKind.i64.wrap ((k : Int) + 1) = (k : Int) + 1 := IntWalk.i64_in _ (by omega)
        by_cases hkn : k < N
        · have dk : decide ((k : Int) < (N : Int)) = true := decide_eq_true (by omega)
          have hki : (k : Int) < (N : Int) := by omega
          obtain ⟨z, hz⟩ : ∃ z, ws[k]? = some z := ⟨_, List.getElem?_eq_getElem (by rw [HWL.out]; exact hkn)⟩
          have hzm := HWS.out z (List.mem_of_getElem? hz)
          have HCELL := Lib.hid (show ∀ W, RI w2 W sb J ((ws.map HL.d).drop (k + 1)) ws rbw (.slice (some ⟨gw, 0, none⟩) N cw) → W.cell? ⟨gw, k, none⟩ = some z.v from fun W h => by
            obtain ⟨gw', _, hgw', hv', _, hcell, _⟩ := h.row.at_ (by rw [HWL.out]; omega)
            injection hv' with e1 _ e3
            injection e1 with e1
            injection e1 with e1
            subst e1
            exact hcell k z.v (by rw [List.getElem?_map, hz]; rfl))
          have hdr : (ws.map HL.d).drop k = z.d :: (ws.map HL.d).drop (k + 1) := by
            have hkl : k < (ws.map HL.d).length := by rw [List.length_map, HWL.out]; exact hkn
            rw [List.drop_eq_getElem_cons hkl]
            congr 1
            rw [List.getElem_map]
            have := List.getElem?_eq_some_iff.1 hz
            rw [this.2]
          rw [hdr] at HR
          have HNX := Lib.hid HR.out.next
          obtain ⟨m, hm⟩ : ∃ m, z.d.length = m := ⟨_, rfl⟩
          have HM := Lib.hid hm
          have HZ := Lib.hid hzm
          unfold HL.v at HCELL
          rw [hm] at HNX HCELL
          have hmb : m ≤ 65536 := by rw [← hm]; exact hzm.2
          clear hz hzm hdr HR hm
          go_wp2_with fail
          refine HNX.out.mono ?_
          rintro e w5 ⟨A5, c5, rfl, hr5, hb5⟩
          have x0 := HCELL.out w5 hr5
          have HR5 := Lib.hid hr5
          have HSA := Lib.hid (same A5 z.A m m c5 z.c z.d z.d w5 hb5 (HZ.out.1.1.fr hr5.fr (fun _ _ _ q => q)) HM.out HM.out (by omega) (by omega))
          rw [show decide (z.d = z.d) = true from decide_eq_true rfl] at HSA
          clear hr5 hb5 HNX HCELL
          go_wp2_with fail
          refine HSA.out.mono ?_
          rintro e w6 ⟨rfl, hF6⟩
          have HR6 := Lib.hid (HR5.out.no hF6)
          clear hF6 HSA HR5 x0
          go_wp2
          go_roundw
          case rel => exact ⟨k + 1, by go_num, by omega, HR6⟩
          case measure => simp [intOf]; omega
        · obtain rfl : N = k := by omega
          have dk : decide ((N : Int) < (N : Int)) = false := decide_eq_false (by omega)
          have HRN := Lib.hid (show RI w2 wr sb J [] ws rbw (.slice (some ⟨gw, 0, none⟩) N cw) by
            have := HR.out
            rwa [List.drop_of_length_le (by rw [List.length_map, HWL.out]; exact Nat.le_refl _)] at this)
          have HN1 := Lib.hid HRN.out.next_none
          have HN2 := Lib.hid HRN.out.lost_
          have HN3 := Lib.hid HRN.out.held_
          have bJ : ((J : Int) == (J : Int)) = true := by simp
          clear HR hkn
          go_wp2_with fail
          refine HN1.out.mono ?_
          rintro e w7 ⟨rfl, rfl⟩
          go_wp2_with fail
          refine HN2.out.mono ?_
          rintro e w8 ⟨rfl, rfl⟩
          go_wp2_with fail
          refine HN3.out.mono ?_
          rintro e w9 ⟨rfl, rfl⟩
          go_wp2
          go_ret
          exact ⟨rfl, HRN.out.fr⟩
end Go.Proofs.YtfpjdgkooikeoaaDoor.Sl
