/- The law ChooseKeeps: its walk. Conditions: none. -/
import Derived.Test.YtkgamiojoekegabBeS
import Derived.Test.YtkgamiojoekegabBeX
import Derived.Test.YtkgamiojoekegabBeP
import Derived.StillTailTactics
namespace Go.Proofs.Ytkgamiojoekegab.Be
open Go.RowKit Go.Proofs.YtkgamiojoekegabW.PrintWords Go.Proofs.Ytkgamiojoekegab.PChooseBest
set_option linter.unusedVariables false

theorem reach16 (b : S26) (n o : Int) (w : World) : Calls Try.prog 16 #[.agg #[.int .i64 b.f0, .int .i64 b.f1, .int .i64 b.f2, .int .i64 b.f3], .int .i64 n, .int .i64 o] w fun e w' => e = .returned (.bool (reachesB b n o)) ∧ Below w.heap.size w w' :=
  PChooseKeeps.flotillalaw12_reaches.calls b.f0 b.f1 b.f2 b.f3 n o _ w (reaches_f b n o)

set_option maxHeartbeats 2000000 in
set_option maxRecDepth 100000 in
theorem keeps_walk (size nm op : Int) (hsz : (Lit.int .i64 size).wf = true) (A : Option Addr) (c : Nat) (all : List S26) (Ap : Option Addr) (cp : Nat) (ps : List Int) (w : World) (hA : Kd.C k26 w A all.length all) (hc : all.length ≤ c) (hb : c * 32 ≤ 140737488351232)
    (hP : Kd.C (Kd.int .i64) w Ap ps.length ps) (hpl : ps.length ≤ 9223372036854775807) (hwp : ∀ p ∈ ps, (Lit.int .i64 p).wf = true) :
    Calls Try.prog 4 #[.int .i64 size, .int .i64 nm, .int .i64 op, .slice A all.length c, .slice Ap ps.length cp] w fun e w' => e = .returned (.bool true) ∧ Below w.heap.size w w' := by
  have hal : all.length ≤ 4398046510976 := by omega
  have HA := Lib.hid hA
  have HP := Lib.hid hP
  have HW := Lib.hid hwp
  have HAM := Lib.hid (among15 size 3 w (by omega) (by omega) hsz)
  clear hA hP hwp
  go_enter Try.func4, Try.ntmps4
  go_wp2_with fail
  refine HAM.out.mono ?_
  rintro e w1 ⟨⟨q, hq, rfl⟩, hB1⟩
  have hw1 : IntKind.i64.wrap (2 * (q : Int)) = 2 * (q : Int) := IntWalk.i64_in _ (by omega)
  have hw2 : IntKind.i64.wrap (3 + 2 * (q : Int)) = 3 + 2 * (q : Int) := IntWalk.i64_in _ (by omega)
  have hw3 : IntKind.i64.wrap (3 + 2 * (q : Int) - 1) = 3 + 2 * (q : Int) - 1 := IntWalk.i64_in _ (by omega)
  go_wp2
  rw [show (3 + 2 * (q : Int) - 1) / 2 = (q : Int) + 1 by omega]
  obtain ⟨b1, hb1⟩ : ∃ b1, w1.heap.size = b1 := ⟨_, rfl⟩
  have HB1 := Lib.hid hb1
  have hbs := hB1.size
  rw [hb1] at hbs
  clear hb1
  go_loopw [13, 14, 15] (fun lv rv i wr => ∃ k : Nat, k ≤ 3 + 2 * q ∧ i = .int .i64 k ∧ rv = .int .i64 ((listK all k).countP (fun b => reachesB b nm op) : Nat) ∧ Hid (Own wr b1 lv (listK all k)) ∧ b1 ≤ wr.heap.size ∧ Below w.heap.size w wr) (fun _ _ i _ => 3 + 2 * q - (intOf i).toNat)
  case atStart => exact ⟨0, Nat.zero_le _, rfl, rfl, Own.nil _ _, by rw [HB1.out]; exact Nat.le_refl _, hB1⟩
  case round =>
    clear hB1 HB1
    obtain ⟨k, hk, rfl, rfl, HO, hbw, hB⟩ := hrel
    obtain ⟨ct, hct⟩ : ∃ ct, (listK all k).countP (fun b => reachesB b nm op) = ct := ⟨_, rfl⟩
    rw [hct]
    have HCT := Lib.hid hct
    have hctk : ct ≤ k := by rw [← hct]; exact Nat.le_trans List.countP_le_length (by rw [listK_length]; exact Nat.le_refl _)
    clear hct
    by_cases hlt : k < 3 + 2 * q
    · go_upto_if 40 with (fail)
      go_cut [] (fun wx => wx = wr.alloc (.cells #[.int .i64 (itemK all k).f0, .int .i64 (itemK all k).f1, .int .i64 (itemK all k).f2, .int .i64 (itemK all k).f3] 26 (0, 0)))
      case first =>
        by_cases hka : k < all.length
        · obtain ⟨ad, ha, g0, g1, g2, g3⟩ := at_T26 (Kd.C_below HA.out (hB.alloc hB.size (.cells #[.int .i64 k, .int .i64 0, .int .i64 0, .int .i64 0] 26 (0, 0)))) (k : Int) (by omega) (by omega)
          subst ha
          simp only [Int.toNat_natCast] at g0 g1 g2 g3
          obtain ⟨y, hy⟩ : ∃ y, rd_T26 all (k : Int) = y := ⟨_, rfl⟩
          rw [hy] at g0 g1 g2 g3
          have HIT := Lib.hid (show itemK all k = { y with f0 := (k : Int) } by rw [itemK, if_pos hka, hy])
          clear hy
          go_wp2
          go_meet
          rw [HIT.out]
        · have HIT := Lib.hid (show itemK all k = ({ f0 := (k : Int), f1 := 0, f2 := 0, f3 := 0 } : S26) by rw [itemK, if_neg hka])
          go_wp2
          go_meet
          rw [HIT.out]
      case rest =>
        subst hcut
        have HX := Lib.hid (listK_succ all k)
        have HN := Lib.hid (show (listK all (k + 1)).countP (fun b => reachesB b nm op) = ct + if reachesB (itemK all k) nm op = true then 1 else 0 by rw [listK_succ, List.countP_append, HCT.out]; simp [List.countP_cons])
        obtain ⟨x, hx⟩ : ∃ x, itemK all k = x := ⟨_, rfl⟩
        rw [hx] at HX HN ⊢
        clear hx HCT
        have HO1 := Lib.hid (HO.out.alloc (.cells #[.int .i64 x.f0, .int .i64 x.f1, .int .i64 x.f2, .int .i64 x.f3] 26 (0, 0)))
        have hB1 : Below w.heap.size w (wr.alloc (.cells #[.int .i64 x.f0, .int .i64 x.f1, .int .i64 x.f2, .int .i64 x.f3] 26 (0, 0))) := hB.alloc hB.size _
        have HBK := Lib.hid (Blk.new wr (.cells #[.int .i64 x.f0, .int .i64 x.f1, .int .i64 x.f2, .int .i64 x.f3] 26 (0, 0)))
        have hsw : wr.heap.size + 1 = (wr.alloc (.cells #[.int .i64 x.f0, .int .i64 x.f1, .int .i64 x.f2, .int .i64 x.f3] 26 (0, 0))).heap.size := by simp
        obtain ⟨p, hp⟩ : ∃ p, wr.heap.size = p := ⟨_, rfl⟩
        obtain ⟨w2, hw2⟩ : ∃ w2, wr.alloc (.cells #[.int .i64 x.f0, .int .i64 x.f1, .int .i64 x.f2, .int .i64 x.f3] 26 (0, 0)) = w2 := ⟨_, rfl⟩
        rw [hw2] at HO1 hB1 HBK hsw ⊢
        rw [hp] at HBK hbw hsw ⊢
        clear hw2 hp HO hB
        have c0 := Blk.cell HBK.out 0
        have c1 := Blk.cell HBK.out 1
        have c2 := Blk.cell HBK.out 2
        have c3 := Blk.cell HBK.out 3
        simp at c0 c1 c2 c3
        go_wp2_with fail
        refine (reach16 x nm op w2).mono ?_
        rintro e w3 ⟨rfl, hb3⟩
        have hB3 : Below w.heap.size w w3 := hB1.trans (hb3.mono hB1.size)
        have HO3 := Lib.hid (HO1.out.move (w1 := w3) (fun b hb => hb3.block b (HO1.out.ltH b hb)))
        have HBK3 := Lib.hid ((hb3.block p (by omega)).trans HBK.out)
        have hs3 : p + 1 ≤ w3.heap.size := by have := hb3.size; omega
        clear c0 c1 c2 c3 hb3 HO1 HBK hB1 hsw
        go_upto_if 50 with (fail)
        go_cut [14] (fun r wx => r = .int .i64 ((listK all (k + 1)).countP (fun b => reachesB b nm op) : Nat) ∧ w3 = wx)
        case first =>
          cases hr : reachesB x nm op with
          | true =>
            have hwc : IntKind.i64.wrap ((ct : Int) + 1) = (ct : Int) + 1 := IntWalk.i64_in _ (by omega)
            go_wp2
            go_meet
            exact ⟨by rw [HN.out, hr]; simp, rfl⟩
          | false =>
            go_wp2
            go_meet
            exact ⟨by rw [HN.out, hr]; simp, rfl⟩
        case rest =>
          obtain ⟨rfl, rfl⟩ := hcut
          have c0 := Blk.cell HBK3.out 0
          have c1 := Blk.cell HBK3.out 1
          have c2 := Blk.cell HBK3.out 2
          have c3 := Blk.cell HBK3.out 3
          simp at c0 c1 c2 c3
          have HLL := Lib.hid (listK_length all k)
          obtain ⟨pre, hpre⟩ : ∃ pre, listK all k = pre := ⟨_, rfl⟩
          rw [hpre] at HO3 HX HLL
          clear hpre
          go_wp2_with (at_builtin; refine append26 rfl (.tmp 53) (.tmp 55) rfl b1 _ pre rfl (HO3.out.alloc _) ⟨w3.heap.size, 0, none⟩ 1 1 [x] rfl rfl (cells_lit w3 x) (by rw [HLL.out]; simp; omega) (by simp; omega) ?_)
          intro v5 w5 hown5 hg5
          have hB5 : Below w.heap.size w w5 := (hB3.alloc hB3.size _).grown hg5 (by have := hB3.size; simp; omega) (fun b hb => by have := HO3.out.base b hb; omega)
          have hs5 : b1 ≤ w5.heap.size := by have := hg5.size; simp at this; omega
          have HO5 : Hid (Own w5 b1 v5 (listK all (k + 1))) := by show Own _ _ _ _; rw [HX.out]; exact hown5
          clear c0 c1 c2 c3 hown5 hg5 HO3 HBK3 hB3 hs3
          obtain ⟨cn, hcn⟩ : ∃ cn : Nat, (listK all (k + 1)).countP (fun b => reachesB b nm op) = cn := ⟨_, rfl⟩
          rw [hcn]
          have HCN := Lib.hid hcn
          clear hcn HN HX
          go_wp2
          go_roundw
          case rel => exact ⟨k + 1, by omega, by go_num, by rw [HCN.out], HO5, hs5, hB5⟩
          case measure => simp [intOf]; omega
    · have hkq : k = 3 + 2 * q := by omega
      subst hkq
      obtain ⟨A1, c1, hv, hC1, hc1⟩ := HO.out.reads (by rw [listK_length]; omega)
      have HS := Lib.hid (some17 A1 c1 (listK all (3 + 2 * q)) (q + 2) Ap cp ps wr hC1 (by rw [listK_length]; omega) (by rw [listK_length]; omega) hc1 (by rw [listK_length]; omega) (Kd.C_below HP.out hB) hpl HW.out)
      rw [listK_length] at hv HS
      rw [show ((q + 2 : Nat) : Int) = (q : Int) + 1 + 1 by omega] at HS
      rw [hv]
      have hw5 : IntKind.i64.wrap ((q : Int) + 1 + 1) = (q : Int) + 1 + 1 := IntWalk.i64_in _ (by omega)
      clear hv hC1 hc1 HO HP HW HA
      go_wp2_with fail
      refine HS.out.mono ?_
      rintro e w2 ⟨⟨v, O, R, rfl, hO, hOl, hp⟩, hb2⟩
      have hB2 : Below w.heap.size w w2 := hB.trans (hb2.mono hB.size)
      obtain ⟨A2, c2, rfl, hC2, hc2⟩ := hO.reads (by omega)
      have HB := Lib.hid (best_any (3 + 2 * (q : Int)) A2 c2 O w2 hC2)
      rw [show (3 + 2 * (q : Int)) = ((3 + 2 * q : Nat) : Int) by omega, best_told all O R (3 + 2 * q) (q + 1) hp hOl (by omega) (by omega), hOl, show ((3 + 2 * q : Nat) : Int) = (3 + 2 * (q : Int)) by omega] at HB
      have HC2 := Lib.hid hC2
      have HOL := Lib.hid hOl
      have HM := Lib.hid (meet all O R (3 + 2 * q) (q + 1) nm op hp hOl (by omega))
      rw [HCT.out] at HM
      have HBR := Lib.hid (fun j hj => best_reaches O j hj)
      have HCM := Lib.hid (fun j hj => com_max O j hj)
      have hbl : bestAt O < O.length := fst_lt better O O.length 0 0 (by omega) (by omega)
      rw [hOl] at hbl hc2
      obtain ⟨bt, hbt⟩ : ∃ bt, bestAt O = bt := ⟨_, rfl⟩
      obtain ⟨cm, hcm⟩ : ∃ cm, (rd_T26 O (comAt O : Int)).f3 = cm := ⟨_, rfl⟩
      rw [hbt] at HB HM HBR hbl
      rw [hcm] at HB HCM
      rw [hOl]
      clear hO hOl hp hb2 hB HS HCT hbt hcm hC2
      have HBE := Lib.hid (show tup ((bt : Int), cm, 0) = .returned (.tuple #[.int .i64 bt, .int .i64 cm, .int .i64 0]) from rfl)
      rw [HBE.out] at HB
      clear HBE
      go_wp2_with fail
      refine HB.out.mono ?_
      rintro e w3 ⟨rfl, hb3⟩
      have hB3 : Below w.heap.size w w3 := hB2.trans (hb3.mono hB2.size)
      have HC3 := Lib.hid (Kd.C_below HC2.out hb3)
      clear hb3 HC2 HB hB2
      have t1 : decide ((bt : Int) < 0) = false := decide_eq_false (by omega)
      have t2 : decide ((q : Int) + 2 ≤ (bt : Int)) = false := decide_eq_false (by omega)
      have hbi : (bt : Int) < (q : Int) + 2 := by omega
      have t3 : decide ((q + 2 : Nat) ≤ bt) = false := decide_eq_false (by omega)
      go_wp2
      go_loopw [83] (fun i wr => ∃ k : Nat, k ≤ q + 2 ∧ i = .int .i64 k ∧ Below w3.heap.size w3 wr) (fun i _ => q + 2 - (intOf i).toNat)
      case atStart => exact ⟨0, Nat.zero_le _, rfl, Below.refl _ _⟩
      case round =>
        obtain ⟨k, hk, rfl, hBr⟩ := hrel
        by_cases hlt : k < q + 2
        · have hol := HOL.out
          obtain ⟨ad, ha, g0, g1, g2, g3⟩ := at_T26 (Kd.C_below HC3.out hBr) (k : Int) (by omega) (by omega)
          obtain ⟨ad', ha', e0, e1, e2, e3⟩ := at_T26 (Kd.C_below HC3.out (hBr.alloc hBr.size (.cells #[.int .i64 (rd_T26 O (k : Int)).f0, .int .i64 (rd_T26 O (k : Int)).f1, .int .i64 (rd_T26 O (k : Int)).f2, .int .i64 (rd_T26 O (k : Int)).f3] 26 (0, 0)))) (bt : Int) (by omega) (by omega)
          subst ha
          obtain rfl := Option.some.inj ha'
          clear ha'
          simp only [Int.toNat_natCast] at g0 g1 g2 g3 e0 e1 e2 e3
          have HR := Lib.hid (HBR.out k (by omega))
          have HM3 := Lib.hid (HCM.out k (by omega))
          clear hol
          obtain ⟨y, hy⟩ : ∃ y, rd_T26 O (k : Int) = y := ⟨_, rfl⟩
          obtain ⟨x, hx⟩ : ∃ x, rd_T26 O (bt : Int) = x := ⟨_, rfl⟩
          rw [hy] at g0 g1 g2 g3 e0 e1 e2 e3 HR HM3
          rw [hx] at e0 e1 e2 e3 HR
          clear hy hx
          have m1 : decide (cm < y.f3) = false := decide_eq_false (by have := HM3.out; omega)
          have hB4 := hBr.alloc hBr.size (.cells #[.int .i64 y.f0, .int .i64 y.f1, .int .i64 y.f2, .int .i64 y.f3] 26 (0, 0))
          have HBK := Lib.hid (Blk.new wr (.cells #[.int .i64 y.f0, .int .i64 y.f1, .int .i64 y.f2, .int .i64 y.f3] 26 (0, 0)))
          go_upto_region 22 with fail
          obtain ⟨p, hp⟩ : ∃ p, wr.heap.size = p := ⟨_, rfl⟩
          obtain ⟨w4, hw4⟩ : ∃ w4, wr.alloc (.cells #[.int .i64 y.f0, .int .i64 y.f1, .int .i64 y.f2, .int .i64 y.f3] 26 (0, 0)) = w4 := ⟨_, rfl⟩
          rw [hw4] at HBK hB4 e0 e1 e2 e3 ⊢
          rw [hp] at HBK ⊢
          clear hw4 hp g0 g1 g2 g3
          have c1 := Blk.cell HBK.out 1
          have c2 := Blk.cell HBK.out 2
          have c3 := Blk.cell HBK.out 3
          simp at c1 c2 c3
          go_still_tail 13, (by kernel_rfl)
          change wpList _ _ _ _ _ w4.drew
          generalize hw5 : w4.drew = w5
          have hB5 : Below w3.heap.size w3 w5 := by rw [← hw5]; exact hB4.drew
          clear hw5 c1 c2 c3 e0 e1 e2 e3 HBK hB4
          go_wp2_with fail
          refine (reach16 x y.f1 y.f2 w5).mono ?_
          rintro e w6 ⟨rfl, hb6⟩
          rw [HR.out]
          have hB6 := hB5.trans (hb6.mono hB5.size)
          clear hb6 hB5
          go_wp2
          go_roundw
          case rel => exact ⟨k + 1, by omega, by go_num, hB6⟩
          case measure => simp [intOf]; omega
        · have hkq : k = q + 2 := by omega
          subst hkq
          have hBf := hB3.trans (hBr.mono hB3.size)
          obtain ⟨ad, ha, e0, e1, e2, e3⟩ := at_T26 (Kd.C_below HC3.out hBr) (bt : Int) (by omega) (by have := HOL.out; omega)
          subst ha
          simp only [Int.toNat_natCast] at e0 e1 e2 e3
          obtain ⟨x, hx⟩ : ∃ x, rd_T26 O (bt : Int) = x := ⟨_, rfl⟩
          rw [hx] at e0 e1 e2 e3 HM
          clear hx
          by_cases hct : ct < q + 2
          · have d1 : decide ((ct : Int) < (q : Int) + 1 + 1) = true := decide_eq_true (by omega)
            go_wp2
            go_ret
            exact ⟨rfl, hBf⟩
          · have d1 : decide ((ct : Int) < (q : Int) + 1 + 1) = false := decide_eq_false (by omega)
            have HF := Lib.hid (HM.out (by omega))
            go_wp2_with fail
            refine (reach16 x nm op _).mono ?_
            rintro e w6 ⟨rfl, hb6⟩
            rw [HF.out]
            have hB6 := hBf.trans (hb6.mono hBf.size)
            go_wp2
            go_ret
            exact ⟨rfl, hB6⟩
end Go.Proofs.Ytkgamiojoekegab.Be
