-- PRINTED BY print.sh 35421559b90ae4d0a3588c463048766b98c2df88dd9212a6774a882060cdf62d: not written by this session
import Derived.Test.YtkgamiojoekegabPVotesConfigsx0
import Derived.Test.YtkgamiojoekegabPVotesConfigsx3
namespace Go.Proofs.Ytkgamiojoekegab.PVotesConfigs
open Go.RowKit Go.Proofs.YtkgamiojoekegabW.PrintWords Go.Proofs.YtkgamiojoekegabW.PrintLast Go.Proofs.YtkgamiojoekegabW.PrintMore
attribute [local go_sem] max2_int min2_int max_two min_two max_three min_three max_four min_four   -- for this text's walks alone
set_option linter.unusedVariables false
set_option linter.unusedSimpArgs false

/-! ### flotillaref04_CheckConfig: function 30 -/
mutual
def flotillaref04_CheckConfig.j0 : Nat → Bool → Int → Int → Int → Int → Int → Int → Int → Int → Int → Int → Option (Int)
  | 0, _, _, _, _, _, _, _, _, _, _, _ => none
  | k + 1, x3, x150000, x150001, x150002, x150003, x150004, x150005, x150006, x150007, x150008, x150009 => (flotillaref04_within.f x150001 1 8).bind fun t150 => ((flotillaref04_within.f x150002 1 16).bind fun t151 => (if t151 = true then ((flotillaref04_within.f x150003 1 16).bind fun t152 => (flotillaref04_CheckConfig.j1 k x3 t150 t152 x150000 x150001 x150002 x150003 x150004 x150005 x150006 x150007 x150008 x150009)) else (flotillaref04_CheckConfig.j1 k x3 t150 false x150000 x150001 x150002 x150003 x150004 x150005 x150006 x150007 x150008 x150009)))
def flotillaref04_CheckConfig.j1 : Nat → Bool → Bool → Bool → Int → Int → Int → Int → Int → Int → Int → Int → Int → Int → Option (Int)
  | 0, _, _, _, _, _, _, _, _, _, _, _, _, _ => none
  | k + 1, x3, x4, x5, x150000, x150001, x150002, x150003, x150004, x150005, x150006, x150007, x150008, x150009 => (flotillaref04_within.f x150004 (wrap64 (x150002 + 1)) 256).bind fun t153 => (if t153 = true then ((flotillaref04_within.f x150005 x150004 1024).bind fun t154 => (if t154 = true then ((flotillaref04_within.f x150006 1 x150005).bind fun t155 => (flotillaref04_CheckConfig.j2 k x3 x4 x5 t155 x150000 x150001 x150002 x150003 x150004 x150005 x150006 x150007 x150008 x150009)) else (flotillaref04_CheckConfig.j2 k x3 x4 x5 false x150000 x150001 x150002 x150003 x150004 x150005 x150006 x150007 x150008 x150009))) else (flotillaref04_CheckConfig.j2 k x3 x4 x5 false x150000 x150001 x150002 x150003 x150004 x150005 x150006 x150007 x150008 x150009))
def flotillaref04_CheckConfig.j2 : Nat → Bool → Bool → Bool → Bool → Int → Int → Int → Int → Int → Int → Int → Int → Int → Int → Option (Int)
  | 0, _, _, _, _, _, _, _, _, _, _, _, _, _, _ => none
  | k + 1, x3, x4, x5, x6, x150000, x150001, x150002, x150003, x150004, x150005, x150006, x150007, x150008, x150009 => (flotillaref04_within.f x150008 2 64).bind fun t156 => (if t156 = true then ((flotillaref04_within.f x150007 1 (wrap64 (x150008 - 1))).bind fun t157 => (if t157 = true then ((flotillaref04_within.f x150009 1 8).bind fun t158 => (if x3 = true then (if x4 = true then (if x5 = true then (if x6 = true then (if t158 = true then (some 0) else (some 42)) else (some 42)) else (some 42)) else (some 42)) else (some 42))) else (if x3 = true then (if x4 = true then (if x5 = true then (if x6 = true then (some 42) else (some 42)) else (some 42)) else (some 42)) else (some 42)))) else (if x3 = true then (if x4 = true then (if x5 = true then (if x6 = true then (some 42) else (some 42)) else (some 42)) else (some 42)) else (some 42)))
end
def flotillaref04_CheckConfig.f (k : Nat) (a0_0 : Int) (a0_1 : Int) (a0_2 : Int) (a0_3 : Int) (a0_4 : Int) (a0_5 : Int) (a0_6 : Int) (a0_7 : Int) (a0_8 : Int) (a0_9 : Int) : Option (Int) := if a0_0 = 3 then (flotillaref04_CheckConfig.j0 k true a0_0 a0_1 a0_2 a0_3 a0_4 a0_5 a0_6 a0_7 a0_8 a0_9) else (if a0_0 = 5 then (flotillaref04_CheckConfig.j0 k true a0_0 a0_1 a0_2 a0_3 a0_4 a0_5 a0_6 a0_7 a0_8 a0_9) else (flotillaref04_CheckConfig.j0 k (a0_0 == 7) a0_0 a0_1 a0_2 a0_3 a0_4 a0_5 a0_6 a0_7 a0_8 a0_9))
theorem flotillaref04_CheckConfig.mono_l : ∀ k, (∀ y0 y1 y2 y3 y4 y5 y6 y7 y8 y9 y10, LeO (flotillaref04_CheckConfig.j0 k y0 y1 y2 y3 y4 y5 y6 y7 y8 y9 y10) (flotillaref04_CheckConfig.j0 (k + 1) y0 y1 y2 y3 y4 y5 y6 y7 y8 y9 y10)) ∧ (∀ y0 y1 y2 y3 y4 y5 y6 y7 y8 y9 y10 y11 y12, LeO (flotillaref04_CheckConfig.j1 k y0 y1 y2 y3 y4 y5 y6 y7 y8 y9 y10 y11 y12) (flotillaref04_CheckConfig.j1 (k + 1) y0 y1 y2 y3 y4 y5 y6 y7 y8 y9 y10 y11 y12)) ∧ (∀ y0 y1 y2 y3 y4 y5 y6 y7 y8 y9 y10 y11 y12 y13, LeO (flotillaref04_CheckConfig.j2 k y0 y1 y2 y3 y4 y5 y6 y7 y8 y9 y10 y11 y12 y13) (flotillaref04_CheckConfig.j2 (k + 1) y0 y1 y2 y3 y4 y5 y6 y7 y8 y9 y10 y11 y12 y13))
  | 0 => ⟨fun _ _ _ _ _ _ _ _ _ _ _ r h => by simp [flotillaref04_CheckConfig.j0] at h, fun _ _ _ _ _ _ _ _ _ _ _ _ _ r h => by simp [flotillaref04_CheckConfig.j1] at h, fun _ _ _ _ _ _ _ _ _ _ _ _ _ _ r h => by simp [flotillaref04_CheckConfig.j2] at h⟩
  | k + 1 => by
    obtain ⟨ih0, ih1, ih2⟩ := flotillaref04_CheckConfig.mono_l k
    refine ⟨?_, ?_, ?_⟩
    · intro y0 y1 y2 y3 y4 y5 y6 y7 y8 y9 y10
      unfold flotillaref04_CheckConfig.j0
      repeat' first
      | (with_reducible exact ih0 _ _ _ _ _ _ _ _ _ _ _)
      | (with_reducible exact ih1 _ _ _ _ _ _ _ _ _ _ _ _ _)
      | (with_reducible exact ih2 _ _ _ _ _ _ _ _ _ _ _ _ _ _)
      | (with_reducible exact LeO.refl _)
      | (with_reducible exact LeO.none _)
      | (with_reducible refine LeO.ite ?_ ?_)
      | (with_reducible refine LeO.bind ?_ (fun _ => ?_))
      | exact ih0 _ _ _ _ _ _ _ _ _ _ _
      | exact ih1 _ _ _ _ _ _ _ _ _ _ _ _ _
      | exact ih2 _ _ _ _ _ _ _ _ _ _ _ _ _ _
      | exact LeO.none _
      | refine LeO.ite ?_ ?_
      | refine LeO.bind ?_ (fun _ => ?_)
    · intro y0 y1 y2 y3 y4 y5 y6 y7 y8 y9 y10 y11 y12
      unfold flotillaref04_CheckConfig.j1
      repeat' first
      | (with_reducible exact ih0 _ _ _ _ _ _ _ _ _ _ _)
      | (with_reducible exact ih1 _ _ _ _ _ _ _ _ _ _ _ _ _)
      | (with_reducible exact ih2 _ _ _ _ _ _ _ _ _ _ _ _ _ _)
      | (with_reducible exact LeO.refl _)
      | (with_reducible exact LeO.none _)
      | (with_reducible refine LeO.ite ?_ ?_)
      | (with_reducible refine LeO.bind ?_ (fun _ => ?_))
      | exact ih0 _ _ _ _ _ _ _ _ _ _ _
      | exact ih1 _ _ _ _ _ _ _ _ _ _ _ _ _
      | exact ih2 _ _ _ _ _ _ _ _ _ _ _ _ _ _
      | exact LeO.none _
      | refine LeO.ite ?_ ?_
      | refine LeO.bind ?_ (fun _ => ?_)
    · intro y0 y1 y2 y3 y4 y5 y6 y7 y8 y9 y10 y11 y12 y13
      unfold flotillaref04_CheckConfig.j2
      repeat' first
      | (with_reducible exact ih0 _ _ _ _ _ _ _ _ _ _ _)
      | (with_reducible exact ih1 _ _ _ _ _ _ _ _ _ _ _ _ _)
      | (with_reducible exact ih2 _ _ _ _ _ _ _ _ _ _ _ _ _ _)
      | (with_reducible exact LeO.refl _)
      | (with_reducible exact LeO.none _)
      | (with_reducible refine LeO.ite ?_ ?_)
      | (with_reducible refine LeO.bind ?_ (fun _ => ?_))
      | exact ih0 _ _ _ _ _ _ _ _ _ _ _
      | exact ih1 _ _ _ _ _ _ _ _ _ _ _ _ _
      | exact ih2 _ _ _ _ _ _ _ _ _ _ _ _ _ _
      | exact LeO.none _
      | refine LeO.ite ?_ ?_
      | refine LeO.bind ?_ (fun _ => ?_)
theorem flotillaref04_CheckConfig.mono : ∀ a0 a1 a2 a3 a4 a5 a6 a7 a8 a9 k, LeO (flotillaref04_CheckConfig.f k a0 a1 a2 a3 a4 a5 a6 a7 a8 a9) (flotillaref04_CheckConfig.f (k + 1) a0 a1 a2 a3 a4 a5 a6 a7 a8 a9) := by
  intro a0 a1 a2 a3 a4 a5 a6 a7 a8 a9 k
  obtain ⟨ih0, ih1, ih2⟩ := flotillaref04_CheckConfig.mono_l k
  unfold flotillaref04_CheckConfig.f
  repeat' first
      | (with_reducible exact ih0 _ _ _ _ _ _ _ _ _ _ _)
      | (with_reducible exact ih1 _ _ _ _ _ _ _ _ _ _ _ _ _)
      | (with_reducible exact ih2 _ _ _ _ _ _ _ _ _ _ _ _ _ _)
      | (with_reducible exact LeO.refl _)
      | (with_reducible exact LeO.none _)
      | (with_reducible refine LeO.ite ?_ ?_)
      | (with_reducible refine LeO.bind ?_ (fun _ => ?_))
      | exact ih0 _ _ _ _ _ _ _ _ _ _ _
      | exact ih1 _ _ _ _ _ _ _ _ _ _ _ _ _
      | exact ih2 _ _ _ _ _ _ _ _ _ _ _ _ _ _
      | exact LeO.none _
      | refine LeO.ite ?_ ?_
      | refine LeO.bind ?_ (fun _ => ?_)
set_option maxHeartbeats 8000000 in
set_option maxRecDepth 100000 in
theorem flotillaref04_CheckConfig.calls (k : Nat) (a0_0 : Int) (a0_1 : Int) (a0_2 : Int) (a0_3 : Int) (a0_4 : Int) (a0_5 : Int) (a0_6 : Int) (a0_7 : Int) (a0_8 : Int) (a0_9 : Int) (r : Int) (w : World) (h : flotillaref04_CheckConfig.f k a0_0 a0_1 a0_2 a0_3 a0_4 a0_5 a0_6 a0_7 a0_8 a0_9 = some r) :
    Calls Try.prog 30 #[.agg #[.int .i64 a0_0, .int .i64 a0_1, .int .i64 a0_2, .int .i64 a0_3, .int .i64 a0_4, .int .i64 a0_5, .int .i64 a0_6, .int .i64 a0_7, .int .i64 a0_8, .int .i64 a0_9]] w fun e w' => e = .returned (.int .i64 r) ∧ Below w.heap.size w w' := by
  have hu54 := Try.underlying54
  have HB := Aside0.mk (Below.refl w.heap.size w)
  have H : (if a0_0 = 3 then (flotillaref04_CheckConfig.j0 k true a0_0 a0_1 a0_2 a0_3 a0_4 a0_5 a0_6 a0_7 a0_8 a0_9) else (if a0_0 = 5 then (flotillaref04_CheckConfig.j0 k true a0_0 a0_1 a0_2 a0_3 a0_4 a0_5 a0_6 a0_7 a0_8 a0_9) else (flotillaref04_CheckConfig.j0 k (a0_0 == 7) a0_0 a0_1 a0_2 a0_3 a0_4 a0_5 a0_6 a0_7 a0_8 a0_9))) = some r := h
  clear h
  have HC2 := Aside0.mk H
  clear H
  go_enter Try.func30, Try.ntmps30
  go_upto_region 1 with (first | ((with_reducible refine gate_dst (N := 1) rfl ?_); refine box_event ?hg (N := 1) ?hd (cs := #[.int .i64 a0_0, .int .i64 a0_1, .int .i64 a0_2, .int .i64 a0_3, .int .i64 a0_4, .int .i64 a0_5, .int .i64 a0_6, .int .i64 a0_7, .int .i64 a0_8, .int .i64 a0_9]) (t := 54) ?hr ?_; (case hd => rfl); (case hg => rfl); (case hr => first | (go_simp; done) | (go_simp; rfl)); intro gb149 hg w3 hbox hb; have n0_ := Aside0.mk (below_step (by repeat (first | (with_reducible first | exact HB.out | apply below_alloc | apply pw_below_drewN | apply below_drew1) | exact HB.out)) hb); have n1_ := Aside0.mk (hbox); have n2_ := Aside0.mk ((by rw [hg]; exact (below_size (by repeat (first | (with_reducible first | exact HB.out | apply below_alloc | apply pw_below_drewN | apply below_drew1) | exact HB.out))) : w.heap.size ≤ gb149)); have n3_ := Aside0.mk ((by rw [hg]; exact (below_size (by repeat (first | (with_reducible first | exact HB.out | apply below_alloc | apply pw_below_drewN | apply below_drew1) | exact HB.out))) : w.heap.size ≤ gb149)); clear HB; have HB := n0_; have BK149 := n1_; have GW149 := n2_; have GE149 := n3_; clear n0_ n1_ n2_ n3_; clear hb hbox hg))
  (try simp only [Act.put, List.setIfInBounds_toArray, List.set_cons_zero, List.set_cons_succ])
  go_cut [3] (fun v3 wc => ∃ (kq : Nat) (x3_1 : Bool), v3 = .bool x3_1 ∧ Aside0 (flotillaref04_CheckConfig.j0 kq x3_1 a0_0 a0_1 a0_2 a0_3 a0_4 a0_5 a0_6 a0_7 a0_8 a0_9 = some r) ∧ Aside0 (kq ≤ k) ∧ Aside0 (wc.heap[gb149]? = some (.cells #[.int .i64 a0_0, .int .i64 a0_1, .int .i64 a0_2, .int .i64 a0_3, .int .i64 a0_4, .int .i64 a0_5, .int .i64 a0_6, .int .i64 a0_7, .int .i64 a0_8, .int .i64 a0_9] 54 (0, 0))) ∧ Aside0 (Below w.heap.size w wc))
  case first =>
    have H := HC2.out
    clear HC2
    by_cases c4 : a0_0 = 3
    · rw [if_pos c4] at H
      have c4b0 : (a0_0 == 3) = true := beq_iff_eq.mpr c4
      have c4b1 : (a0_0 != 3) = false := bne_eq_false_iff_eq.mpr c4
      clear c4
      (first | rw [c4b0] | (simp only [i64_w, i32_w]; rw [c4b0]) | skip)
      have H' := Aside0.mk H
      clear H
      have hcz5_0 : w3.cell? ⟨gb149, 0, none⟩ = some (.int .i64 a0_0) := (blk_cell BK149.out 0).trans rfl
      have hcz5_1 : w3.cell? ⟨gb149, 1, none⟩ = some (.int .i64 a0_1) := (blk_cell BK149.out 1).trans rfl
      have hcz5_2 : w3.cell? ⟨gb149, 2, none⟩ = some (.int .i64 a0_2) := (blk_cell BK149.out 2).trans rfl
      have hcz5_3 : w3.cell? ⟨gb149, 3, none⟩ = some (.int .i64 a0_3) := (blk_cell BK149.out 3).trans rfl
      have hcz5_4 : w3.cell? ⟨gb149, 4, none⟩ = some (.int .i64 a0_4) := (blk_cell BK149.out 4).trans rfl
      have hcz5_5 : w3.cell? ⟨gb149, 5, none⟩ = some (.int .i64 a0_5) := (blk_cell BK149.out 5).trans rfl
      have hcz5_6 : w3.cell? ⟨gb149, 6, none⟩ = some (.int .i64 a0_6) := (blk_cell BK149.out 6).trans rfl
      have hcz5_7 : w3.cell? ⟨gb149, 7, none⟩ = some (.int .i64 a0_7) := (blk_cell BK149.out 7).trans rfl
      have hcz5_8 : w3.cell? ⟨gb149, 8, none⟩ = some (.int .i64 a0_8) := (blk_cell BK149.out 8).trans rfl
      have hcz5_9 : w3.cell? ⟨gb149, 9, none⟩ = some (.int .i64 a0_9) := (blk_cell BK149.out 9).trans rfl
      have hfz5_0 := blk_frozen BK149.out 0
      have hfz5_1 := blk_frozen BK149.out 1
      have hfz5_2 := blk_frozen BK149.out 2
      have hfz5_3 := blk_frozen BK149.out 3
      have hfz5_4 := blk_frozen BK149.out 4
      have hfz5_5 := blk_frozen BK149.out 5
      have hfz5_6 := blk_frozen BK149.out 6
      have hfz5_7 := blk_frozen BK149.out 7
      have hfz5_8 := blk_frozen BK149.out 8
      have hfz5_9 := blk_frozen BK149.out 9
      go_wp2
      go_meet
      case rel => exact ⟨_, (true), (by first | rfl | (simp; done) | (simp [*]; done)), H', ⟨by first | omega | exact Nat.le_refl _⟩, ⟨by (with_reducible repeat (first | refine blk_drewN ?_ _ | refine blk_drew ?_ | refine blk_alloc ?_ _)); exact BK149.out⟩, ⟨by repeat (first | (with_reducible first | exact HB.out | apply below_alloc | apply pw_below_drewN | apply below_drew1 | refine below_set ?_ GE149.out) | exact HB.out)⟩⟩
    · rw [if_neg c4] at H
      have c4b0 : (a0_0 == 3) = false := beq_eq_false_iff_ne.mpr c4
      have c4b1 : (a0_0 != 3) = true := bne_iff_ne.mpr c4
      (first | rw [c4b0] | (simp only [i64_w, i32_w]; rw [c4b0]) | skip)
      by_cases c6 : a0_0 = 5
      · rw [if_pos c6] at H
        have c6b0 : (a0_0 == 5) = true := beq_iff_eq.mpr c6
        have c6b1 : (a0_0 != 5) = false := bne_eq_false_iff_eq.mpr c6
        clear c6
        have H' := Aside0.mk H
        clear H
        have hcz7_0 : w3.cell? ⟨gb149, 0, none⟩ = some (.int .i64 a0_0) := (blk_cell BK149.out 0).trans rfl
        have hcz7_1 : w3.cell? ⟨gb149, 1, none⟩ = some (.int .i64 a0_1) := (blk_cell BK149.out 1).trans rfl
        have hcz7_2 : w3.cell? ⟨gb149, 2, none⟩ = some (.int .i64 a0_2) := (blk_cell BK149.out 2).trans rfl
        have hcz7_3 : w3.cell? ⟨gb149, 3, none⟩ = some (.int .i64 a0_3) := (blk_cell BK149.out 3).trans rfl
        have hcz7_4 : w3.cell? ⟨gb149, 4, none⟩ = some (.int .i64 a0_4) := (blk_cell BK149.out 4).trans rfl
        have hcz7_5 : w3.cell? ⟨gb149, 5, none⟩ = some (.int .i64 a0_5) := (blk_cell BK149.out 5).trans rfl
        have hcz7_6 : w3.cell? ⟨gb149, 6, none⟩ = some (.int .i64 a0_6) := (blk_cell BK149.out 6).trans rfl
        have hcz7_7 : w3.cell? ⟨gb149, 7, none⟩ = some (.int .i64 a0_7) := (blk_cell BK149.out 7).trans rfl
        have hcz7_8 : w3.cell? ⟨gb149, 8, none⟩ = some (.int .i64 a0_8) := (blk_cell BK149.out 8).trans rfl
        have hcz7_9 : w3.cell? ⟨gb149, 9, none⟩ = some (.int .i64 a0_9) := (blk_cell BK149.out 9).trans rfl
        have hfz7_0 := blk_frozen BK149.out 0
        have hfz7_1 := blk_frozen BK149.out 1
        have hfz7_2 := blk_frozen BK149.out 2
        have hfz7_3 := blk_frozen BK149.out 3
        have hfz7_4 := blk_frozen BK149.out 4
        have hfz7_5 := blk_frozen BK149.out 5
        have hfz7_6 := blk_frozen BK149.out 6
        have hfz7_7 := blk_frozen BK149.out 7
        have hfz7_8 := blk_frozen BK149.out 8
        have hfz7_9 := blk_frozen BK149.out 9
        go_wp2
        go_meet
        case rel => exact ⟨_, (true), (by first | rfl | (simp; done) | (simp [*]; done)), H', ⟨by first | omega | exact Nat.le_refl _⟩, ⟨by (with_reducible repeat (first | refine blk_drewN ?_ _ | refine blk_drew ?_ | refine blk_alloc ?_ _)); exact BK149.out⟩, ⟨by repeat (first | (with_reducible first | exact HB.out | apply below_alloc | apply pw_below_drewN | apply below_drew1 | refine below_set ?_ GE149.out) | exact HB.out)⟩⟩
      · rw [if_neg c6] at H
        have c6b0 : (a0_0 == 5) = false := beq_eq_false_iff_ne.mpr c6
        have c6b1 : (a0_0 != 5) = true := bne_iff_ne.mpr c6
        have H' := Aside0.mk H
        clear H
        have hcz8_0 : w3.cell? ⟨gb149, 0, none⟩ = some (.int .i64 a0_0) := (blk_cell BK149.out 0).trans rfl
        have hcz8_1 : w3.cell? ⟨gb149, 1, none⟩ = some (.int .i64 a0_1) := (blk_cell BK149.out 1).trans rfl
        have hcz8_2 : w3.cell? ⟨gb149, 2, none⟩ = some (.int .i64 a0_2) := (blk_cell BK149.out 2).trans rfl
        have hcz8_3 : w3.cell? ⟨gb149, 3, none⟩ = some (.int .i64 a0_3) := (blk_cell BK149.out 3).trans rfl
        have hcz8_4 : w3.cell? ⟨gb149, 4, none⟩ = some (.int .i64 a0_4) := (blk_cell BK149.out 4).trans rfl
        have hcz8_5 : w3.cell? ⟨gb149, 5, none⟩ = some (.int .i64 a0_5) := (blk_cell BK149.out 5).trans rfl
        have hcz8_6 : w3.cell? ⟨gb149, 6, none⟩ = some (.int .i64 a0_6) := (blk_cell BK149.out 6).trans rfl
        have hcz8_7 : w3.cell? ⟨gb149, 7, none⟩ = some (.int .i64 a0_7) := (blk_cell BK149.out 7).trans rfl
        have hcz8_8 : w3.cell? ⟨gb149, 8, none⟩ = some (.int .i64 a0_8) := (blk_cell BK149.out 8).trans rfl
        have hcz8_9 : w3.cell? ⟨gb149, 9, none⟩ = some (.int .i64 a0_9) := (blk_cell BK149.out 9).trans rfl
        have hfz8_0 := blk_frozen BK149.out 0
        have hfz8_1 := blk_frozen BK149.out 1
        have hfz8_2 := blk_frozen BK149.out 2
        have hfz8_3 := blk_frozen BK149.out 3
        have hfz8_4 := blk_frozen BK149.out 4
        have hfz8_5 := blk_frozen BK149.out 5
        have hfz8_6 := blk_frozen BK149.out 6
        have hfz8_7 := blk_frozen BK149.out 7
        have hfz8_8 := blk_frozen BK149.out 8
        have hfz8_9 := blk_frozen BK149.out 9
        go_wp2
        go_meet
        case rel => exact ⟨_, ((a0_0 == 7)), (by first | rfl | (simp; done) | (simp [*]; done)), H', ⟨by first | omega | exact Nat.le_refl _⟩, ⟨by (with_reducible repeat (first | refine blk_drewN ?_ _ | refine blk_drew ?_ | refine blk_alloc ?_ _)); exact BK149.out⟩, ⟨by repeat (first | (with_reducible first | exact HB.out | apply below_alloc | apply pw_below_drewN | apply below_drew1 | refine below_set ?_ GE149.out) | exact HB.out)⟩⟩
  case rest =>
    clear HC2
    try clear p2
    try clear c3
    try clear c4
    try clear c4b0
    try clear c4b1
    try clear c6
    try clear c6b0
    try clear c6b1
    try clear hcz5_0
    try clear hcz5_1
    try clear hcz5_2
    try clear hcz5_3
    try clear hcz5_4
    try clear hcz5_5
    try clear hcz5_6
    try clear hcz5_7
    try clear hcz5_8
    try clear hcz5_9
    try clear hcz7_0
    try clear hcz7_1
    try clear hcz7_2
    try clear hcz7_3
    try clear hcz7_4
    try clear hcz7_5
    try clear hcz7_6
    try clear hcz7_7
    try clear hcz7_8
    try clear hcz7_9
    try clear hcz8_0
    try clear hcz8_1
    try clear hcz8_2
    try clear hcz8_3
    try clear hcz8_4
    try clear hcz8_5
    try clear hcz8_6
    try clear hcz8_7
    try clear hcz8_8
    try clear hcz8_9
    try clear hfz5_0
    try clear hfz5_1
    try clear hfz5_2
    try clear hfz5_3
    try clear hfz5_4
    try clear hfz5_5
    try clear hfz5_6
    try clear hfz5_7
    try clear hfz5_8
    try clear hfz5_9
    try clear hfz7_0
    try clear hfz7_1
    try clear hfz7_2
    try clear hfz7_3
    try clear hfz7_4
    try clear hfz7_5
    try clear hfz7_6
    try clear hfz7_7
    try clear hfz7_8
    try clear hfz7_9
    try clear hfz8_0
    try clear hfz8_1
    try clear hfz8_2
    try clear hfz8_3
    try clear hfz8_4
    try clear hfz8_5
    try clear hfz8_6
    try clear hfz8_7
    try clear hfz8_8
    try clear hfz8_9
    obtain ⟨kq, x3_1, rfl, HA, HJ1, BK149, HB⟩ := hcut
    cases kq with
    | zero => exact absurd HA.out (by simp [flotillaref04_CheckConfig.j0])
    | succ kj1 =>
      have H := HA.out
      clear HA
      simp only [flotillaref04_CheckConfig.j0] at H
      replace H := Option.bind_eq_some_iff.mp H
      obtain ⟨t150, A90, H⟩ := H
      replace H : ((flotillaref04_within.f a0_2 1 16).bind fun t151 => (if t151 = true then ((flotillaref04_within.f a0_3 1 16).bind fun t152 => (flotillaref04_CheckConfig.j1 kj1 x3_1 t150 t152 a0_0 a0_1 a0_2 a0_3 a0_4 a0_5 a0_6 a0_7 a0_8 a0_9)) else (flotillaref04_CheckConfig.j1 kj1 x3_1 t150 false a0_0 a0_1 a0_2 a0_3 a0_4 a0_5 a0_6 a0_7 a0_8 a0_9))) = some r := H
      have A9 := Aside0.mk A90
      clear A90
      have HC10 := Aside0.mk H
      clear H
      have hcz11_0 : wc.cell? ⟨gb149, 0, none⟩ = some (.int .i64 a0_0) := (blk_cell BK149.out 0).trans rfl
      have hcz11_1 : wc.cell? ⟨gb149, 1, none⟩ = some (.int .i64 a0_1) := (blk_cell BK149.out 1).trans rfl
      have hcz11_2 : wc.cell? ⟨gb149, 2, none⟩ = some (.int .i64 a0_2) := (blk_cell BK149.out 2).trans rfl
      have hcz11_3 : wc.cell? ⟨gb149, 3, none⟩ = some (.int .i64 a0_3) := (blk_cell BK149.out 3).trans rfl
      have hcz11_4 : wc.cell? ⟨gb149, 4, none⟩ = some (.int .i64 a0_4) := (blk_cell BK149.out 4).trans rfl
      have hcz11_5 : wc.cell? ⟨gb149, 5, none⟩ = some (.int .i64 a0_5) := (blk_cell BK149.out 5).trans rfl
      have hcz11_6 : wc.cell? ⟨gb149, 6, none⟩ = some (.int .i64 a0_6) := (blk_cell BK149.out 6).trans rfl
      have hcz11_7 : wc.cell? ⟨gb149, 7, none⟩ = some (.int .i64 a0_7) := (blk_cell BK149.out 7).trans rfl
      have hcz11_8 : wc.cell? ⟨gb149, 8, none⟩ = some (.int .i64 a0_8) := (blk_cell BK149.out 8).trans rfl
      have hcz11_9 : wc.cell? ⟨gb149, 9, none⟩ = some (.int .i64 a0_9) := (blk_cell BK149.out 9).trans rfl
      have hfz11_0 := blk_frozen BK149.out 0
      have hfz11_1 := blk_frozen BK149.out 1
      have hfz11_2 := blk_frozen BK149.out 2
      have hfz11_3 := blk_frozen BK149.out 3
      have hfz11_4 := blk_frozen BK149.out 4
      have hfz11_5 := blk_frozen BK149.out 5
      have hfz11_6 := blk_frozen BK149.out 6
      have hfz11_7 := blk_frozen BK149.out 7
      have hfz11_8 := blk_frozen BK149.out 8
      have hfz11_9 := blk_frozen BK149.out 9
      go_upto_region 3 with (first | ((with_reducible refine gate_callee (f := 68) rfl ?_); refine goesL_ (some 23) rfl rfl Try.func68 (by kernel_rfl) rfl #[.int .i64 a0_1, .int .i64 1, .int .i64 8] rfl (by (try simp only [List.map_toArray, List.map_cons, List.map_nil]); first | done | rfl | (simp only [List.length_drop, List.length_take]; rfl)) ?_; (with_reducible refine (flotillaref04_within.calls a0_1 1 8 t150 _ A9.out).mono ?_); rintro e w' ⟨rfl, ⟨nd, rfl⟩⟩; refine ⟨_, rfl, ?_⟩))
      (try simp only [Act.put, List.setIfInBounds_toArray, List.set_cons_zero, List.set_cons_succ])
      go_cut [5] (fun v5 wc => ∃ (kq : Nat) (x5_9 : Bool), v5 = .bool x5_9 ∧ Aside0 (flotillaref04_CheckConfig.j1 kq x3_1 t150 x5_9 a0_0 a0_1 a0_2 a0_3 a0_4 a0_5 a0_6 a0_7 a0_8 a0_9 = some r) ∧ Aside0 (kq ≤ kj1) ∧ Aside0 (wc.heap[gb149]? = some (.cells #[.int .i64 a0_0, .int .i64 a0_1, .int .i64 a0_2, .int .i64 a0_3, .int .i64 a0_4, .int .i64 a0_5, .int .i64 a0_6, .int .i64 a0_7, .int .i64 a0_8, .int .i64 a0_9] 54 (0, 0))) ∧ Aside0 (Below w.heap.size w wc))
      case first =>
        have H := HC10.out
        clear HC10
        replace H := Option.bind_eq_some_iff.mp H
        obtain ⟨t151, A120, H⟩ := H
        replace H : (if t151 = true then ((flotillaref04_within.f a0_3 1 16).bind fun t152 => (flotillaref04_CheckConfig.j1 kj1 x3_1 t150 t152 a0_0 a0_1 a0_2 a0_3 a0_4 a0_5 a0_6 a0_7 a0_8 a0_9)) else (flotillaref04_CheckConfig.j1 kj1 x3_1 t150 false a0_0 a0_1 a0_2 a0_3 a0_4 a0_5 a0_6 a0_7 a0_8 a0_9)) = some r := H
        have A12 := Aside0.mk A120
        clear A120
        by_cases c13 : t151 = true
        · subst c13
          have H1 : ((flotillaref04_within.f a0_3 1 16).bind fun t152 => (flotillaref04_CheckConfig.j1 kj1 x3_1 t150 t152 a0_0 a0_1 a0_2 a0_3 a0_4 a0_5 a0_6 a0_7 a0_8 a0_9)) = some r := by rw [if_pos rfl] at H; exact H
          clear H
          have H := H1
          clear H1
          replace H := Option.bind_eq_some_iff.mp H
          obtain ⟨t152, A140, H⟩ := H
          replace H : (flotillaref04_CheckConfig.j1 kj1 x3_1 t150 t152 a0_0 a0_1 a0_2 a0_3 a0_4 a0_5 a0_6 a0_7 a0_8 a0_9) = some r := H
          have A14 := Aside0.mk A140
          clear A140
          have H' := Aside0.mk H
          clear H
          have hcz15_0 : wc.cell? ⟨gb149, 0, none⟩ = some (.int .i64 a0_0) := (blk_cell BK149.out 0).trans rfl
          have hcz15_1 : wc.cell? ⟨gb149, 1, none⟩ = some (.int .i64 a0_1) := (blk_cell BK149.out 1).trans rfl
          have hcz15_2 : wc.cell? ⟨gb149, 2, none⟩ = some (.int .i64 a0_2) := (blk_cell BK149.out 2).trans rfl
          have hcz15_3 : wc.cell? ⟨gb149, 3, none⟩ = some (.int .i64 a0_3) := (blk_cell BK149.out 3).trans rfl
          have hcz15_4 : wc.cell? ⟨gb149, 4, none⟩ = some (.int .i64 a0_4) := (blk_cell BK149.out 4).trans rfl
          have hcz15_5 : wc.cell? ⟨gb149, 5, none⟩ = some (.int .i64 a0_5) := (blk_cell BK149.out 5).trans rfl
          have hcz15_6 : wc.cell? ⟨gb149, 6, none⟩ = some (.int .i64 a0_6) := (blk_cell BK149.out 6).trans rfl
          have hcz15_7 : wc.cell? ⟨gb149, 7, none⟩ = some (.int .i64 a0_7) := (blk_cell BK149.out 7).trans rfl
          have hcz15_8 : wc.cell? ⟨gb149, 8, none⟩ = some (.int .i64 a0_8) := (blk_cell BK149.out 8).trans rfl
          have hcz15_9 : wc.cell? ⟨gb149, 9, none⟩ = some (.int .i64 a0_9) := (blk_cell BK149.out 9).trans rfl
          have hfz15_0 := blk_frozen BK149.out 0
          have hfz15_1 := blk_frozen BK149.out 1
          have hfz15_2 := blk_frozen BK149.out 2
          have hfz15_3 := blk_frozen BK149.out 3
          have hfz15_4 := blk_frozen BK149.out 4
          have hfz15_5 := blk_frozen BK149.out 5
          have hfz15_6 := blk_frozen BK149.out 6
          have hfz15_7 := blk_frozen BK149.out 7
          have hfz15_8 := blk_frozen BK149.out 8
          have hfz15_9 := blk_frozen BK149.out 9
          go_wp2_with (first | ((with_reducible refine gate_callee (f := 68) rfl ?_); refine goesL_ (some 26) rfl rfl Try.func68 (by kernel_rfl) rfl #[.int .i64 a0_2, .int .i64 1, .int .i64 16] rfl (by (try simp only [List.map_toArray, List.map_cons, List.map_nil]); first | done | rfl | (simp only [List.length_drop, List.length_take]; rfl)) ?_; (with_reducible refine (flotillaref04_within.calls a0_2 1 16 true _ A12.out).mono ?_); rintro e w' ⟨rfl, ⟨nd, rfl⟩⟩; refine ⟨_, rfl, ?_⟩) | (go_at_call 68; (with_reducible refine (flotillaref04_within.calls a0_3 1 16 t152 _ A14.out).mono ?_); rintro e w' ⟨rfl, ⟨nd, rfl⟩⟩))
          go_meet
          case rel => exact ⟨_, (t152), (by first | rfl | (simp; done) | (simp [*]; done)), H', ⟨by have := HJ1.out; first | omega | exact Nat.le_refl _⟩, ⟨by (with_reducible repeat (first | refine blk_drewN ?_ _ | refine blk_drew ?_ | refine blk_alloc ?_ _)); exact BK149.out⟩, ⟨by repeat (first | (with_reducible first | exact HB.out | apply below_alloc | apply pw_below_drewN | apply below_drew1 | refine below_set ?_ GE149.out) | exact HB.out)⟩⟩
        · replace c13 := Bool.eq_false_iff.mpr c13
          subst c13
          have H1 : (flotillaref04_CheckConfig.j1 kj1 x3_1 t150 false a0_0 a0_1 a0_2 a0_3 a0_4 a0_5 a0_6 a0_7 a0_8 a0_9) = some r := by rw [if_neg (show ¬ (false = true) by decide)] at H; exact H
          clear H
          have H := H1
          clear H1
          have H' := Aside0.mk H
          clear H
          have hcz16_0 : wc.cell? ⟨gb149, 0, none⟩ = some (.int .i64 a0_0) := (blk_cell BK149.out 0).trans rfl
          have hcz16_1 : wc.cell? ⟨gb149, 1, none⟩ = some (.int .i64 a0_1) := (blk_cell BK149.out 1).trans rfl
          have hcz16_2 : wc.cell? ⟨gb149, 2, none⟩ = some (.int .i64 a0_2) := (blk_cell BK149.out 2).trans rfl
          have hcz16_3 : wc.cell? ⟨gb149, 3, none⟩ = some (.int .i64 a0_3) := (blk_cell BK149.out 3).trans rfl
          have hcz16_4 : wc.cell? ⟨gb149, 4, none⟩ = some (.int .i64 a0_4) := (blk_cell BK149.out 4).trans rfl
          have hcz16_5 : wc.cell? ⟨gb149, 5, none⟩ = some (.int .i64 a0_5) := (blk_cell BK149.out 5).trans rfl
          have hcz16_6 : wc.cell? ⟨gb149, 6, none⟩ = some (.int .i64 a0_6) := (blk_cell BK149.out 6).trans rfl
          have hcz16_7 : wc.cell? ⟨gb149, 7, none⟩ = some (.int .i64 a0_7) := (blk_cell BK149.out 7).trans rfl
          have hcz16_8 : wc.cell? ⟨gb149, 8, none⟩ = some (.int .i64 a0_8) := (blk_cell BK149.out 8).trans rfl
          have hcz16_9 : wc.cell? ⟨gb149, 9, none⟩ = some (.int .i64 a0_9) := (blk_cell BK149.out 9).trans rfl
          have hfz16_0 := blk_frozen BK149.out 0
          have hfz16_1 := blk_frozen BK149.out 1
          have hfz16_2 := blk_frozen BK149.out 2
          have hfz16_3 := blk_frozen BK149.out 3
          have hfz16_4 := blk_frozen BK149.out 4
          have hfz16_5 := blk_frozen BK149.out 5
          have hfz16_6 := blk_frozen BK149.out 6
          have hfz16_7 := blk_frozen BK149.out 7
          have hfz16_8 := blk_frozen BK149.out 8
          have hfz16_9 := blk_frozen BK149.out 9
          go_wp2_with (first | ((with_reducible refine gate_callee (f := 68) rfl ?_); refine goesL_ (some 26) rfl rfl Try.func68 (by kernel_rfl) rfl #[.int .i64 a0_2, .int .i64 1, .int .i64 16] rfl (by (try simp only [List.map_toArray, List.map_cons, List.map_nil]); first | done | rfl | (simp only [List.length_drop, List.length_take]; rfl)) ?_; (with_reducible refine (flotillaref04_within.calls a0_2 1 16 false _ A12.out).mono ?_); rintro e w' ⟨rfl, ⟨nd, rfl⟩⟩; refine ⟨_, rfl, ?_⟩))
          go_meet
          case rel => exact ⟨_, (false), (by first | rfl | (simp; done) | (simp [*]; done)), H', ⟨by have := HJ1.out; first | omega | exact Nat.le_refl _⟩, ⟨by (with_reducible repeat (first | refine blk_drewN ?_ _ | refine blk_drew ?_ | refine blk_alloc ?_ _)); exact BK149.out⟩, ⟨by repeat (first | (with_reducible first | exact HB.out | apply below_alloc | apply pw_below_drewN | apply below_drew1 | refine below_set ?_ GE149.out) | exact HB.out)⟩⟩
      case rest =>
        clear HC10
        try clear c1
        try clear p2
        try clear c3
        try clear c4
        try clear c4b0
        try clear c4b1
        try clear c6
        try clear c6b0
        try clear c6b1
        try clear c13
        try clear hcz11_0
        try clear hcz11_1
        try clear hcz11_2
        try clear hcz11_3
        try clear hcz11_4
        try clear hcz11_5
        try clear hcz11_6
        try clear hcz11_7
        try clear hcz11_8
        try clear hcz11_9
        try clear hcz15_0
        try clear hcz15_1
        try clear hcz15_2
        try clear hcz15_3
        try clear hcz15_4
        try clear hcz15_5
        try clear hcz15_6
        try clear hcz15_7
        try clear hcz15_8
        try clear hcz15_9
        try clear hcz16_0
        try clear hcz16_1
        try clear hcz16_2
        try clear hcz16_3
        try clear hcz16_4
        try clear hcz16_5
        try clear hcz16_6
        try clear hcz16_7
        try clear hcz16_8
        try clear hcz16_9
        try clear hcz5_0
        try clear hcz5_1
        try clear hcz5_2
        try clear hcz5_3
        try clear hcz5_4
        try clear hcz5_5
        try clear hcz5_6
        try clear hcz5_7
        try clear hcz5_8
        try clear hcz5_9
        try clear hcz7_0
        try clear hcz7_1
        try clear hcz7_2
        try clear hcz7_3
        try clear hcz7_4
        try clear hcz7_5
        try clear hcz7_6
        try clear hcz7_7
        try clear hcz7_8
        try clear hcz7_9
        try clear hcz8_0
        try clear hcz8_1
        try clear hcz8_2
        try clear hcz8_3
        try clear hcz8_4
        try clear hcz8_5
        try clear hcz8_6
        try clear hcz8_7
        try clear hcz8_8
        try clear hcz8_9
        try clear hfz11_0
        try clear hfz11_1
        try clear hfz11_2
        try clear hfz11_3
        try clear hfz11_4
        try clear hfz11_5
        try clear hfz11_6
        try clear hfz11_7
        try clear hfz11_8
        try clear hfz11_9
        try clear hfz15_0
        try clear hfz15_1
        try clear hfz15_2
        try clear hfz15_3
        try clear hfz15_4
        try clear hfz15_5
        try clear hfz15_6
        try clear hfz15_7
        try clear hfz15_8
        try clear hfz15_9
        try clear hfz16_0
        try clear hfz16_1
        try clear hfz16_2
        try clear hfz16_3
        try clear hfz16_4
        try clear hfz16_5
        try clear hfz16_6
        try clear hfz16_7
        try clear hfz16_8
        try clear hfz16_9
        try clear hfz5_0
        try clear hfz5_1
        try clear hfz5_2
        try clear hfz5_3
        try clear hfz5_4
        try clear hfz5_5
        try clear hfz5_6
        try clear hfz5_7
        try clear hfz5_8
        try clear hfz5_9
        try clear hfz7_0
        try clear hfz7_1
        try clear hfz7_2
        try clear hfz7_3
        try clear hfz7_4
        try clear hfz7_5
        try clear hfz7_6
        try clear hfz7_7
        try clear hfz7_8
        try clear hfz7_9
        try clear hfz8_0
        try clear hfz8_1
        try clear hfz8_2
        try clear hfz8_3
        try clear hfz8_4
        try clear hfz8_5
        try clear hfz8_6
        try clear hfz8_7
        try clear hfz8_8
        try clear hfz8_9
        try clear p2
        obtain ⟨kq, x5_9, rfl, HA, HJ9, BK149, HB⟩ := hcut
        cases kq with
        | zero => exact absurd HA.out (by simp [flotillaref04_CheckConfig.j1])
        | succ kj9 =>
          have H := HA.out
          clear HA
          simp only [flotillaref04_CheckConfig.j1] at H
          have HC17 := Aside0.mk H
          clear H
          go_upto_region 4 with (fail)
          go_cut [6] (fun v6 wc => ∃ (kq : Nat) (x6_16 : Bool), v6 = .bool x6_16 ∧ Aside0 (flotillaref04_CheckConfig.j2 kq x3_1 t150 x5_9 x6_16 a0_0 a0_1 a0_2 a0_3 a0_4 a0_5 a0_6 a0_7 a0_8 a0_9 = some r) ∧ Aside0 (kq ≤ kj9) ∧ Aside0 (wc.heap[gb149]? = some (.cells #[.int .i64 a0_0, .int .i64 a0_1, .int .i64 a0_2, .int .i64 a0_3, .int .i64 a0_4, .int .i64 a0_5, .int .i64 a0_6, .int .i64 a0_7, .int .i64 a0_8, .int .i64 a0_9] 54 (0, 0))) ∧ Aside0 (Below w.heap.size w wc))
          case first =>
            have H := HC17.out
            clear HC17
            replace H := Option.bind_eq_some_iff.mp H
            obtain ⟨t153, A180, H⟩ := H
            replace H : (if t153 = true then ((flotillaref04_within.f a0_5 a0_4 1024).bind fun t154 => (if t154 = true then ((flotillaref04_within.f a0_6 1 a0_5).bind fun t155 => (flotillaref04_CheckConfig.j2 kj9 x3_1 t150 x5_9 t155 a0_0 a0_1 a0_2 a0_3 a0_4 a0_5 a0_6 a0_7 a0_8 a0_9)) else (flotillaref04_CheckConfig.j2 kj9 x3_1 t150 x5_9 false a0_0 a0_1 a0_2 a0_3 a0_4 a0_5 a0_6 a0_7 a0_8 a0_9))) else (flotillaref04_CheckConfig.j2 kj9 x3_1 t150 x5_9 false a0_0 a0_1 a0_2 a0_3 a0_4 a0_5 a0_6 a0_7 a0_8 a0_9)) = some r := H
            have A18 := Aside0.mk A180
            clear A180
            by_cases c19 : t153 = true
            · subst c19
              have H1 : ((flotillaref04_within.f a0_5 a0_4 1024).bind fun t154 => (if t154 = true then ((flotillaref04_within.f a0_6 1 a0_5).bind fun t155 => (flotillaref04_CheckConfig.j2 kj9 x3_1 t150 x5_9 t155 a0_0 a0_1 a0_2 a0_3 a0_4 a0_5 a0_6 a0_7 a0_8 a0_9)) else (flotillaref04_CheckConfig.j2 kj9 x3_1 t150 x5_9 false a0_0 a0_1 a0_2 a0_3 a0_4 a0_5 a0_6 a0_7 a0_8 a0_9))) = some r := by rw [if_pos rfl] at H; exact H
              clear H
              have H := H1
              clear H1
              replace H := Option.bind_eq_some_iff.mp H
              obtain ⟨t154, A200, H⟩ := H
              replace H : (if t154 = true then ((flotillaref04_within.f a0_6 1 a0_5).bind fun t155 => (flotillaref04_CheckConfig.j2 kj9 x3_1 t150 x5_9 t155 a0_0 a0_1 a0_2 a0_3 a0_4 a0_5 a0_6 a0_7 a0_8 a0_9)) else (flotillaref04_CheckConfig.j2 kj9 x3_1 t150 x5_9 false a0_0 a0_1 a0_2 a0_3 a0_4 a0_5 a0_6 a0_7 a0_8 a0_9)) = some r := H
              have A20 := Aside0.mk A200
              clear A200
              by_cases c21 : t154 = true
              · subst c21
                have H1 : ((flotillaref04_within.f a0_6 1 a0_5).bind fun t155 => (flotillaref04_CheckConfig.j2 kj9 x3_1 t150 x5_9 t155 a0_0 a0_1 a0_2 a0_3 a0_4 a0_5 a0_6 a0_7 a0_8 a0_9)) = some r := by rw [if_pos rfl] at H; exact H
                clear H
                have H := H1
                clear H1
                replace H := Option.bind_eq_some_iff.mp H
                obtain ⟨t155, A220, H⟩ := H
                replace H : (flotillaref04_CheckConfig.j2 kj9 x3_1 t150 x5_9 t155 a0_0 a0_1 a0_2 a0_3 a0_4 a0_5 a0_6 a0_7 a0_8 a0_9) = some r := H
                have A22 := Aside0.mk A220
                clear A220
                have H' := Aside0.mk H
                clear H
                have hcz23_0 : wc.cell? ⟨gb149, 0, none⟩ = some (.int .i64 a0_0) := (blk_cell BK149.out 0).trans rfl
                have hcz23_1 : wc.cell? ⟨gb149, 1, none⟩ = some (.int .i64 a0_1) := (blk_cell BK149.out 1).trans rfl
                have hcz23_2 : wc.cell? ⟨gb149, 2, none⟩ = some (.int .i64 a0_2) := (blk_cell BK149.out 2).trans rfl
                have hcz23_3 : wc.cell? ⟨gb149, 3, none⟩ = some (.int .i64 a0_3) := (blk_cell BK149.out 3).trans rfl
                have hcz23_4 : wc.cell? ⟨gb149, 4, none⟩ = some (.int .i64 a0_4) := (blk_cell BK149.out 4).trans rfl
                have hcz23_5 : wc.cell? ⟨gb149, 5, none⟩ = some (.int .i64 a0_5) := (blk_cell BK149.out 5).trans rfl
                have hcz23_6 : wc.cell? ⟨gb149, 6, none⟩ = some (.int .i64 a0_6) := (blk_cell BK149.out 6).trans rfl
                have hcz23_7 : wc.cell? ⟨gb149, 7, none⟩ = some (.int .i64 a0_7) := (blk_cell BK149.out 7).trans rfl
                have hcz23_8 : wc.cell? ⟨gb149, 8, none⟩ = some (.int .i64 a0_8) := (blk_cell BK149.out 8).trans rfl
                have hcz23_9 : wc.cell? ⟨gb149, 9, none⟩ = some (.int .i64 a0_9) := (blk_cell BK149.out 9).trans rfl
                have hfz23_0 := blk_frozen BK149.out 0
                have hfz23_1 := blk_frozen BK149.out 1
                have hfz23_2 := blk_frozen BK149.out 2
                have hfz23_3 := blk_frozen BK149.out 3
                have hfz23_4 := blk_frozen BK149.out 4
                have hfz23_5 := blk_frozen BK149.out 5
                have hfz23_6 := blk_frozen BK149.out 6
                have hfz23_7 := blk_frozen BK149.out 7
                have hfz23_8 := blk_frozen BK149.out 8
                have hfz23_9 := blk_frozen BK149.out 9
                go_wp2_with (first | ((with_reducible refine gate_callee (f := 68) rfl ?_); refine goesL_ (some 37) rfl rfl Try.func68 (by kernel_rfl) rfl #[.int .i64 a0_4, .int .i64 (wrap64 (a0_2 + 1)), .int .i64 256] rfl (by (try simp only [List.map_toArray, List.map_cons, List.map_nil]); first | done | rfl | (simp only [List.length_drop, List.length_take]; rfl)) ?_; (with_reducible refine (flotillaref04_within.calls a0_4 (wrap64 (a0_2 + 1)) 256 true _ A18.out).mono ?_); rintro e w' ⟨rfl, ⟨nd, rfl⟩⟩; refine ⟨_, rfl, ?_⟩) | (go_at_call 68; (with_reducible refine (flotillaref04_within.calls a0_5 a0_4 1024 true _ A20.out).mono ?_); rintro e w' ⟨rfl, ⟨nd, rfl⟩⟩) | (go_at_call 68; (with_reducible refine (flotillaref04_within.calls a0_6 1 a0_5 t155 _ A22.out).mono ?_); rintro e w' ⟨rfl, ⟨nd, rfl⟩⟩))
                go_meet
                case rel => exact ⟨_, (t155), (by first | rfl | (simp; done) | (simp [*]; done)), H', ⟨by have := HJ1.out; have := HJ9.out; first | omega | exact Nat.le_refl _⟩, ⟨by (with_reducible repeat (first | refine blk_drewN ?_ _ | refine blk_drew ?_ | refine blk_alloc ?_ _)); exact BK149.out⟩, ⟨by repeat (first | (with_reducible first | exact HB.out | apply below_alloc | apply pw_below_drewN | apply below_drew1 | refine below_set ?_ GE149.out) | exact HB.out)⟩⟩
              · replace c21 := Bool.eq_false_iff.mpr c21
                subst c21
                have H1 : (flotillaref04_CheckConfig.j2 kj9 x3_1 t150 x5_9 false a0_0 a0_1 a0_2 a0_3 a0_4 a0_5 a0_6 a0_7 a0_8 a0_9) = some r := by rw [if_neg (show ¬ (false = true) by decide)] at H; exact H
                clear H
                have H := H1
                clear H1
                have H' := Aside0.mk H
                clear H
                have hcz24_0 : wc.cell? ⟨gb149, 0, none⟩ = some (.int .i64 a0_0) := (blk_cell BK149.out 0).trans rfl
                have hcz24_1 : wc.cell? ⟨gb149, 1, none⟩ = some (.int .i64 a0_1) := (blk_cell BK149.out 1).trans rfl
                have hcz24_2 : wc.cell? ⟨gb149, 2, none⟩ = some (.int .i64 a0_2) := (blk_cell BK149.out 2).trans rfl
                have hcz24_3 : wc.cell? ⟨gb149, 3, none⟩ = some (.int .i64 a0_3) := (blk_cell BK149.out 3).trans rfl
                have hcz24_4 : wc.cell? ⟨gb149, 4, none⟩ = some (.int .i64 a0_4) := (blk_cell BK149.out 4).trans rfl
                have hcz24_5 : wc.cell? ⟨gb149, 5, none⟩ = some (.int .i64 a0_5) := (blk_cell BK149.out 5).trans rfl
                have hcz24_6 : wc.cell? ⟨gb149, 6, none⟩ = some (.int .i64 a0_6) := (blk_cell BK149.out 6).trans rfl
                have hcz24_7 : wc.cell? ⟨gb149, 7, none⟩ = some (.int .i64 a0_7) := (blk_cell BK149.out 7).trans rfl
                have hcz24_8 : wc.cell? ⟨gb149, 8, none⟩ = some (.int .i64 a0_8) := (blk_cell BK149.out 8).trans rfl
                have hcz24_9 : wc.cell? ⟨gb149, 9, none⟩ = some (.int .i64 a0_9) := (blk_cell BK149.out 9).trans rfl
                have hfz24_0 := blk_frozen BK149.out 0
                have hfz24_1 := blk_frozen BK149.out 1
                have hfz24_2 := blk_frozen BK149.out 2
                have hfz24_3 := blk_frozen BK149.out 3
                have hfz24_4 := blk_frozen BK149.out 4
                have hfz24_5 := blk_frozen BK149.out 5
                have hfz24_6 := blk_frozen BK149.out 6
                have hfz24_7 := blk_frozen BK149.out 7
                have hfz24_8 := blk_frozen BK149.out 8
                have hfz24_9 := blk_frozen BK149.out 9
                go_wp2_with (first | ((with_reducible refine gate_callee (f := 68) rfl ?_); refine goesL_ (some 37) rfl rfl Try.func68 (by kernel_rfl) rfl #[.int .i64 a0_4, .int .i64 (wrap64 (a0_2 + 1)), .int .i64 256] rfl (by (try simp only [List.map_toArray, List.map_cons, List.map_nil]); first | done | rfl | (simp only [List.length_drop, List.length_take]; rfl)) ?_; (with_reducible refine (flotillaref04_within.calls a0_4 (wrap64 (a0_2 + 1)) 256 true _ A18.out).mono ?_); rintro e w' ⟨rfl, ⟨nd, rfl⟩⟩; refine ⟨_, rfl, ?_⟩) | (go_at_call 68; (with_reducible refine (flotillaref04_within.calls a0_5 a0_4 1024 false _ A20.out).mono ?_); rintro e w' ⟨rfl, ⟨nd, rfl⟩⟩))
                go_meet
                case rel => exact ⟨_, (false), (by first | rfl | (simp; done) | (simp [*]; done)), H', ⟨by have := HJ1.out; have := HJ9.out; first | omega | exact Nat.le_refl _⟩, ⟨by (with_reducible repeat (first | refine blk_drewN ?_ _ | refine blk_drew ?_ | refine blk_alloc ?_ _)); exact BK149.out⟩, ⟨by repeat (first | (with_reducible first | exact HB.out | apply below_alloc | apply pw_below_drewN | apply below_drew1 | refine below_set ?_ GE149.out) | exact HB.out)⟩⟩
            · replace c19 := Bool.eq_false_iff.mpr c19
              subst c19
              have H1 : (flotillaref04_CheckConfig.j2 kj9 x3_1 t150 x5_9 false a0_0 a0_1 a0_2 a0_3 a0_4 a0_5 a0_6 a0_7 a0_8 a0_9) = some r := by rw [if_neg (show ¬ (false = true) by decide)] at H; exact H
              clear H
              have H := H1
              clear H1
              have H' := Aside0.mk H
              clear H
              have hcz25_0 : wc.cell? ⟨gb149, 0, none⟩ = some (.int .i64 a0_0) := (blk_cell BK149.out 0).trans rfl
              have hcz25_1 : wc.cell? ⟨gb149, 1, none⟩ = some (.int .i64 a0_1) := (blk_cell BK149.out 1).trans rfl
              have hcz25_2 : wc.cell? ⟨gb149, 2, none⟩ = some (.int .i64 a0_2) := (blk_cell BK149.out 2).trans rfl
              have hcz25_3 : wc.cell? ⟨gb149, 3, none⟩ = some (.int .i64 a0_3) := (blk_cell BK149.out 3).trans rfl
              have hcz25_4 : wc.cell? ⟨gb149, 4, none⟩ = some (.int .i64 a0_4) := (blk_cell BK149.out 4).trans rfl
              have hcz25_5 : wc.cell? ⟨gb149, 5, none⟩ = some (.int .i64 a0_5) := (blk_cell BK149.out 5).trans rfl
              have hcz25_6 : wc.cell? ⟨gb149, 6, none⟩ = some (.int .i64 a0_6) := (blk_cell BK149.out 6).trans rfl
              have hcz25_7 : wc.cell? ⟨gb149, 7, none⟩ = some (.int .i64 a0_7) := (blk_cell BK149.out 7).trans rfl
              have hcz25_8 : wc.cell? ⟨gb149, 8, none⟩ = some (.int .i64 a0_8) := (blk_cell BK149.out 8).trans rfl
              have hcz25_9 : wc.cell? ⟨gb149, 9, none⟩ = some (.int .i64 a0_9) := (blk_cell BK149.out 9).trans rfl
              have hfz25_0 := blk_frozen BK149.out 0
              have hfz25_1 := blk_frozen BK149.out 1
              have hfz25_2 := blk_frozen BK149.out 2
              have hfz25_3 := blk_frozen BK149.out 3
              have hfz25_4 := blk_frozen BK149.out 4
              have hfz25_5 := blk_frozen BK149.out 5
              have hfz25_6 := blk_frozen BK149.out 6
              have hfz25_7 := blk_frozen BK149.out 7
              have hfz25_8 := blk_frozen BK149.out 8
              have hfz25_9 := blk_frozen BK149.out 9
              go_wp2_with (first | ((with_reducible refine gate_callee (f := 68) rfl ?_); refine goesL_ (some 37) rfl rfl Try.func68 (by kernel_rfl) rfl #[.int .i64 a0_4, .int .i64 (wrap64 (a0_2 + 1)), .int .i64 256] rfl (by (try simp only [List.map_toArray, List.map_cons, List.map_nil]); first | done | rfl | (simp only [List.length_drop, List.length_take]; rfl)) ?_; (with_reducible refine (flotillaref04_within.calls a0_4 (wrap64 (a0_2 + 1)) 256 false _ A18.out).mono ?_); rintro e w' ⟨rfl, ⟨nd, rfl⟩⟩; refine ⟨_, rfl, ?_⟩))
              go_meet
              case rel => exact ⟨_, (false), (by first | rfl | (simp; done) | (simp [*]; done)), H', ⟨by have := HJ1.out; have := HJ9.out; first | omega | exact Nat.le_refl _⟩, ⟨by (with_reducible repeat (first | refine blk_drewN ?_ _ | refine blk_drew ?_ | refine blk_alloc ?_ _)); exact BK149.out⟩, ⟨by repeat (first | (with_reducible first | exact HB.out | apply below_alloc | apply pw_below_drewN | apply below_drew1 | refine below_set ?_ GE149.out) | exact HB.out)⟩⟩
          case rest =>
            clear HC17
            try clear c1
            try clear c2
            try clear p2
            try clear c3
            try clear c4
            try clear c4b0
            try clear c4b1
            try clear c6
            try clear c6b0
            try clear c6b1
            try clear p6
            try clear c13
            try clear c19
            try clear c21
            try clear hcz11_0
            try clear hcz11_1
            try clear hcz11_2
            try clear hcz11_3
            try clear hcz11_4
            try clear hcz11_5
            try clear hcz11_6
            try clear hcz11_7
            try clear hcz11_8
            try clear hcz11_9
            try clear hcz15_0
            try clear hcz15_1
            try clear hcz15_2
            try clear hcz15_3
            try clear hcz15_4
            try clear hcz15_5
            try clear hcz15_6
            try clear hcz15_7
            try clear hcz15_8
            try clear hcz15_9
            try clear hcz16_0
            try clear hcz16_1
            try clear hcz16_2
            try clear hcz16_3
            try clear hcz16_4
            try clear hcz16_5
            try clear hcz16_6
            try clear hcz16_7
            try clear hcz16_8
            try clear hcz16_9
            try clear hcz23_0
            try clear hcz23_1
            try clear hcz23_2
            try clear hcz23_3
            try clear hcz23_4
            try clear hcz23_5
            try clear hcz23_6
            try clear hcz23_7
            try clear hcz23_8
            try clear hcz23_9
            try clear hcz24_0
            try clear hcz24_1
            try clear hcz24_2
            try clear hcz24_3
            try clear hcz24_4
            try clear hcz24_5
            try clear hcz24_6
            try clear hcz24_7
            try clear hcz24_8
            try clear hcz24_9
            try clear hcz25_0
            try clear hcz25_1
            try clear hcz25_2
            try clear hcz25_3
            try clear hcz25_4
            try clear hcz25_5
            try clear hcz25_6
            try clear hcz25_7
            try clear hcz25_8
            try clear hcz25_9
            try clear hcz5_0
            try clear hcz5_1
            try clear hcz5_2
            try clear hcz5_3
            try clear hcz5_4
            try clear hcz5_5
            try clear hcz5_6
            try clear hcz5_7
            try clear hcz5_8
            try clear hcz5_9
            try clear hcz7_0
            try clear hcz7_1
            try clear hcz7_2
            try clear hcz7_3
            try clear hcz7_4
            try clear hcz7_5
            try clear hcz7_6
            try clear hcz7_7
            try clear hcz7_8
            try clear hcz7_9
            try clear hcz8_0
            try clear hcz8_1
            try clear hcz8_2
            try clear hcz8_3
            try clear hcz8_4
            try clear hcz8_5
            try clear hcz8_6
            try clear hcz8_7
            try clear hcz8_8
            try clear hcz8_9
            try clear hfz11_0
            try clear hfz11_1
            try clear hfz11_2
            try clear hfz11_3
            try clear hfz11_4
            try clear hfz11_5
            try clear hfz11_6
            try clear hfz11_7
            try clear hfz11_8
            try clear hfz11_9
            try clear hfz15_0
            try clear hfz15_1
            try clear hfz15_2
            try clear hfz15_3
            try clear hfz15_4
            try clear hfz15_5
            try clear hfz15_6
            try clear hfz15_7
            try clear hfz15_8
            try clear hfz15_9
            try clear hfz16_0
            try clear hfz16_1
            try clear hfz16_2
            try clear hfz16_3
            try clear hfz16_4
            try clear hfz16_5
            try clear hfz16_6
            try clear hfz16_7
            try clear hfz16_8
            try clear hfz16_9
            try clear hfz23_0
            try clear hfz23_1
            try clear hfz23_2
            try clear hfz23_3
            try clear hfz23_4
            try clear hfz23_5
            try clear hfz23_6
            try clear hfz23_7
            try clear hfz23_8
            try clear hfz23_9
            try clear hfz24_0
            try clear hfz24_1
            try clear hfz24_2
            try clear hfz24_3
            try clear hfz24_4
            try clear hfz24_5
            try clear hfz24_6
            try clear hfz24_7
            try clear hfz24_8
            try clear hfz24_9
            try clear hfz25_0
            try clear hfz25_1
            try clear hfz25_2
            try clear hfz25_3
            try clear hfz25_4
            try clear hfz25_5
            try clear hfz25_6
            try clear hfz25_7
            try clear hfz25_8
            try clear hfz25_9
            try clear hfz5_0
            try clear hfz5_1
            try clear hfz5_2
            try clear hfz5_3
            try clear hfz5_4
            try clear hfz5_5
            try clear hfz5_6
            try clear hfz5_7
            try clear hfz5_8
            try clear hfz5_9
            try clear hfz7_0
            try clear hfz7_1
            try clear hfz7_2
            try clear hfz7_3
            try clear hfz7_4
            try clear hfz7_5
            try clear hfz7_6
            try clear hfz7_7
            try clear hfz7_8
            try clear hfz7_9
            try clear hfz8_0
            try clear hfz8_1
            try clear hfz8_2
            try clear hfz8_3
            try clear hfz8_4
            try clear hfz8_5
            try clear hfz8_6
            try clear hfz8_7
            try clear hfz8_8
            try clear hfz8_9
            try clear p2
            obtain ⟨kq, x6_16, rfl, HA, HJ16, BK149, HB⟩ := hcut
            cases kq with
            | zero => exact absurd HA.out (by simp [flotillaref04_CheckConfig.j2])
            | succ kj16 =>
              have H := HA.out
              clear HA
              simp only [flotillaref04_CheckConfig.j2] at H
              replace H := Option.bind_eq_some_iff.mp H
              obtain ⟨t156, A260, H⟩ := H
              replace H : (if t156 = true then ((flotillaref04_within.f a0_7 1 (wrap64 (a0_8 - 1))).bind fun t157 => (if t157 = true then ((flotillaref04_within.f a0_9 1 8).bind fun t158 => (if x3_1 = true then (if t150 = true then (if x5_9 = true then (if x6_16 = true then (if t158 = true then (some 0) else (some 42)) else (some 42)) else (some 42)) else (some 42)) else (some 42))) else (if x3_1 = true then (if t150 = true then (if x5_9 = true then (if x6_16 = true then (some 42) else (some 42)) else (some 42)) else (some 42)) else (some 42)))) else (if x3_1 = true then (if t150 = true then (if x5_9 = true then (if x6_16 = true then (some 42) else (some 42)) else (some 42)) else (some 42)) else (some 42))) = some r := H
              have A26 := Aside0.mk A260
              clear A260
              by_cases c27 : t156 = true
              · subst c27
                have H1 : ((flotillaref04_within.f a0_7 1 (wrap64 (a0_8 - 1))).bind fun t157 => (if t157 = true then ((flotillaref04_within.f a0_9 1 8).bind fun t158 => (if x3_1 = true then (if t150 = true then (if x5_9 = true then (if x6_16 = true then (if t158 = true then (some 0) else (some 42)) else (some 42)) else (some 42)) else (some 42)) else (some 42))) else (if x3_1 = true then (if t150 = true then (if x5_9 = true then (if x6_16 = true then (some 42) else (some 42)) else (some 42)) else (some 42)) else (some 42)))) = some r := by rw [if_pos rfl] at H; exact H
                clear H
                have H := H1
                clear H1
                replace H := Option.bind_eq_some_iff.mp H
                obtain ⟨t157, A280, H⟩ := H
                replace H : (if t157 = true then ((flotillaref04_within.f a0_9 1 8).bind fun t158 => (if x3_1 = true then (if t150 = true then (if x5_9 = true then (if x6_16 = true then (if t158 = true then (some 0) else (some 42)) else (some 42)) else (some 42)) else (some 42)) else (some 42))) else (if x3_1 = true then (if t150 = true then (if x5_9 = true then (if x6_16 = true then (some 42) else (some 42)) else (some 42)) else (some 42)) else (some 42))) = some r := H
                have A28 := Aside0.mk A280
                clear A280
                by_cases c29 : t157 = true
                · subst c29
                  have H1 : ((flotillaref04_within.f a0_9 1 8).bind fun t158 => (if x3_1 = true then (if t150 = true then (if x5_9 = true then (if x6_16 = true then (if t158 = true then (some 0) else (some 42)) else (some 42)) else (some 42)) else (some 42)) else (some 42))) = some r := by rw [if_pos rfl] at H; exact H
                  clear H
                  have H := H1
                  clear H1
                  replace H := Option.bind_eq_some_iff.mp H
                  obtain ⟨t158, A300, H⟩ := H
                  replace H : (if x3_1 = true then (if t150 = true then (if x5_9 = true then (if x6_16 = true then (if t158 = true then (some 0) else (some 42)) else (some 42)) else (some 42)) else (some 42)) else (some 42)) = some r := H
                  have A30 := Aside0.mk A300
                  clear A300
                  by_cases c31 : x3_1 = true
                  · subst c31
                    have H1 : (if t150 = true then (if x5_9 = true then (if x6_16 = true then (if t158 = true then (some 0) else (some 42)) else (some 42)) else (some 42)) else (some 42)) = some r := by rw [if_pos rfl] at H; exact H
                    clear H
                    have H := H1
                    clear H1
                    by_cases c32 : t150 = true
                    · subst c32
                      have H1 : (if x5_9 = true then (if x6_16 = true then (if t158 = true then (some 0) else (some 42)) else (some 42)) else (some 42)) = some r := by rw [if_pos rfl] at H; exact H
                      clear H
                      have H := H1
                      clear H1
                      by_cases c33 : x5_9 = true
                      · subst c33
                        have H1 : (if x6_16 = true then (if t158 = true then (some 0) else (some 42)) else (some 42)) = some r := by rw [if_pos rfl] at H; exact H
                        clear H
                        have H := H1
                        clear H1
                        by_cases c34 : x6_16 = true
                        · subst c34
                          have H1 : (if t158 = true then (some 0) else (some 42)) = some r := by rw [if_pos rfl] at H; exact H
                          clear H
                          have H := H1
                          clear H1
                          by_cases c35 : t158 = true
                          · subst c35
                            have H1 : (some 0) = some r := by rw [if_pos rfl] at H; exact H
                            clear H
                            have H := H1
                            clear H1
                            obtain rfl := Option.some.inj H
                            have hcz36_0 : wc.cell? ⟨gb149, 0, none⟩ = some (.int .i64 a0_0) := (blk_cell BK149.out 0).trans rfl
                            have hcz36_1 : wc.cell? ⟨gb149, 1, none⟩ = some (.int .i64 a0_1) := (blk_cell BK149.out 1).trans rfl
                            have hcz36_2 : wc.cell? ⟨gb149, 2, none⟩ = some (.int .i64 a0_2) := (blk_cell BK149.out 2).trans rfl
                            have hcz36_3 : wc.cell? ⟨gb149, 3, none⟩ = some (.int .i64 a0_3) := (blk_cell BK149.out 3).trans rfl
                            have hcz36_4 : wc.cell? ⟨gb149, 4, none⟩ = some (.int .i64 a0_4) := (blk_cell BK149.out 4).trans rfl
                            have hcz36_5 : wc.cell? ⟨gb149, 5, none⟩ = some (.int .i64 a0_5) := (blk_cell BK149.out 5).trans rfl
                            have hcz36_6 : wc.cell? ⟨gb149, 6, none⟩ = some (.int .i64 a0_6) := (blk_cell BK149.out 6).trans rfl
                            have hcz36_7 : wc.cell? ⟨gb149, 7, none⟩ = some (.int .i64 a0_7) := (blk_cell BK149.out 7).trans rfl
                            have hcz36_8 : wc.cell? ⟨gb149, 8, none⟩ = some (.int .i64 a0_8) := (blk_cell BK149.out 8).trans rfl
                            have hcz36_9 : wc.cell? ⟨gb149, 9, none⟩ = some (.int .i64 a0_9) := (blk_cell BK149.out 9).trans rfl
                            have hfz36_0 := blk_frozen BK149.out 0
                            have hfz36_1 := blk_frozen BK149.out 1
                            have hfz36_2 := blk_frozen BK149.out 2
                            have hfz36_3 := blk_frozen BK149.out 3
                            have hfz36_4 := blk_frozen BK149.out 4
                            have hfz36_5 := blk_frozen BK149.out 5
                            have hfz36_6 := blk_frozen BK149.out 6
                            have hfz36_7 := blk_frozen BK149.out 7
                            have hfz36_8 := blk_frozen BK149.out 8
                            have hfz36_9 := blk_frozen BK149.out 9
                            go_wp2_with (first | ((with_reducible refine gate_callee (f := 68) rfl ?_); refine goesL_ (some 54) rfl rfl Try.func68 (by kernel_rfl) rfl #[.int .i64 a0_8, .int .i64 2, .int .i64 64] rfl (by (try simp only [List.map_toArray, List.map_cons, List.map_nil]); first | done | rfl | (simp only [List.length_drop, List.length_take]; rfl)) ?_; (with_reducible refine (flotillaref04_within.calls a0_8 2 64 true _ A26.out).mono ?_); rintro e w' ⟨rfl, ⟨nd, rfl⟩⟩; refine ⟨_, rfl, ?_⟩) | (go_at_call 68; (with_reducible refine (flotillaref04_within.calls a0_7 1 (wrap64 (a0_8 - 1)) true _ A28.out).mono ?_); rintro e w' ⟨rfl, ⟨nd, rfl⟩⟩) | (go_at_call 68; (with_reducible refine (flotillaref04_within.calls a0_9 1 8 true _ A30.out).mono ?_); rintro e w' ⟨rfl, ⟨nd, rfl⟩⟩))
                            go_ret
                            exact ⟨by first | rfl | (simp [errW_none, errW_some] <;> rfl) | (simp [*, errW_none, errW_some] <;> rfl), by repeat (first | (with_reducible first | exact HB.out | apply below_alloc | apply pw_below_drewN | apply below_drew1 | refine below_set ?_ GE149.out) | exact HB.out)⟩
                          · replace c35 := Bool.eq_false_iff.mpr c35
                            subst c35
                            have H1 : (some 42) = some r := by rw [if_neg (show ¬ (false = true) by decide)] at H; exact H
                            clear H
                            have H := H1
                            clear H1
                            obtain rfl := Option.some.inj H
                            have hcz37_0 : wc.cell? ⟨gb149, 0, none⟩ = some (.int .i64 a0_0) := (blk_cell BK149.out 0).trans rfl
                            have hcz37_1 : wc.cell? ⟨gb149, 1, none⟩ = some (.int .i64 a0_1) := (blk_cell BK149.out 1).trans rfl
                            have hcz37_2 : wc.cell? ⟨gb149, 2, none⟩ = some (.int .i64 a0_2) := (blk_cell BK149.out 2).trans rfl
                            have hcz37_3 : wc.cell? ⟨gb149, 3, none⟩ = some (.int .i64 a0_3) := (blk_cell BK149.out 3).trans rfl
                            have hcz37_4 : wc.cell? ⟨gb149, 4, none⟩ = some (.int .i64 a0_4) := (blk_cell BK149.out 4).trans rfl
                            have hcz37_5 : wc.cell? ⟨gb149, 5, none⟩ = some (.int .i64 a0_5) := (blk_cell BK149.out 5).trans rfl
                            have hcz37_6 : wc.cell? ⟨gb149, 6, none⟩ = some (.int .i64 a0_6) := (blk_cell BK149.out 6).trans rfl
                            have hcz37_7 : wc.cell? ⟨gb149, 7, none⟩ = some (.int .i64 a0_7) := (blk_cell BK149.out 7).trans rfl
                            have hcz37_8 : wc.cell? ⟨gb149, 8, none⟩ = some (.int .i64 a0_8) := (blk_cell BK149.out 8).trans rfl
                            have hcz37_9 : wc.cell? ⟨gb149, 9, none⟩ = some (.int .i64 a0_9) := (blk_cell BK149.out 9).trans rfl
                            have hfz37_0 := blk_frozen BK149.out 0
                            have hfz37_1 := blk_frozen BK149.out 1
                            have hfz37_2 := blk_frozen BK149.out 2
                            have hfz37_3 := blk_frozen BK149.out 3
                            have hfz37_4 := blk_frozen BK149.out 4
                            have hfz37_5 := blk_frozen BK149.out 5
                            have hfz37_6 := blk_frozen BK149.out 6
                            have hfz37_7 := blk_frozen BK149.out 7
                            have hfz37_8 := blk_frozen BK149.out 8
                            have hfz37_9 := blk_frozen BK149.out 9
                            go_wp2_with (first | ((with_reducible refine gate_callee (f := 68) rfl ?_); refine goesL_ (some 54) rfl rfl Try.func68 (by kernel_rfl) rfl #[.int .i64 a0_8, .int .i64 2, .int .i64 64] rfl (by (try simp only [List.map_toArray, List.map_cons, List.map_nil]); first | done | rfl | (simp only [List.length_drop, List.length_take]; rfl)) ?_; (with_reducible refine (flotillaref04_within.calls a0_8 2 64 true _ A26.out).mono ?_); rintro e w' ⟨rfl, ⟨nd, rfl⟩⟩; refine ⟨_, rfl, ?_⟩) | (go_at_call 68; (with_reducible refine (flotillaref04_within.calls a0_7 1 (wrap64 (a0_8 - 1)) true _ A28.out).mono ?_); rintro e w' ⟨rfl, ⟨nd, rfl⟩⟩) | (go_at_call 68; (with_reducible refine (flotillaref04_within.calls a0_9 1 8 false _ A30.out).mono ?_); rintro e w' ⟨rfl, ⟨nd, rfl⟩⟩))
                            go_ret
                            exact ⟨by first | rfl | (simp [errW_none, errW_some] <;> rfl) | (simp [*, errW_none, errW_some] <;> rfl), by repeat (first | (with_reducible first | exact HB.out | apply below_alloc | apply pw_below_drewN | apply below_drew1 | refine below_set ?_ GE149.out) | exact HB.out)⟩
                        · replace c34 := Bool.eq_false_iff.mpr c34
                          subst c34
                          have H1 : (some 42) = some r := by rw [if_neg (show ¬ (false = true) by decide)] at H; exact H
                          clear H
                          have H := H1
                          clear H1
                          obtain rfl := Option.some.inj H
                          have hcz38_0 : wc.cell? ⟨gb149, 0, none⟩ = some (.int .i64 a0_0) := (blk_cell BK149.out 0).trans rfl
                          have hcz38_1 : wc.cell? ⟨gb149, 1, none⟩ = some (.int .i64 a0_1) := (blk_cell BK149.out 1).trans rfl
                          have hcz38_2 : wc.cell? ⟨gb149, 2, none⟩ = some (.int .i64 a0_2) := (blk_cell BK149.out 2).trans rfl
                          have hcz38_3 : wc.cell? ⟨gb149, 3, none⟩ = some (.int .i64 a0_3) := (blk_cell BK149.out 3).trans rfl
                          have hcz38_4 : wc.cell? ⟨gb149, 4, none⟩ = some (.int .i64 a0_4) := (blk_cell BK149.out 4).trans rfl
                          have hcz38_5 : wc.cell? ⟨gb149, 5, none⟩ = some (.int .i64 a0_5) := (blk_cell BK149.out 5).trans rfl
                          have hcz38_6 : wc.cell? ⟨gb149, 6, none⟩ = some (.int .i64 a0_6) := (blk_cell BK149.out 6).trans rfl
                          have hcz38_7 : wc.cell? ⟨gb149, 7, none⟩ = some (.int .i64 a0_7) := (blk_cell BK149.out 7).trans rfl
                          have hcz38_8 : wc.cell? ⟨gb149, 8, none⟩ = some (.int .i64 a0_8) := (blk_cell BK149.out 8).trans rfl
                          have hcz38_9 : wc.cell? ⟨gb149, 9, none⟩ = some (.int .i64 a0_9) := (blk_cell BK149.out 9).trans rfl
                          have hfz38_0 := blk_frozen BK149.out 0
                          have hfz38_1 := blk_frozen BK149.out 1
                          have hfz38_2 := blk_frozen BK149.out 2
                          have hfz38_3 := blk_frozen BK149.out 3
                          have hfz38_4 := blk_frozen BK149.out 4
                          have hfz38_5 := blk_frozen BK149.out 5
                          have hfz38_6 := blk_frozen BK149.out 6
                          have hfz38_7 := blk_frozen BK149.out 7
                          have hfz38_8 := blk_frozen BK149.out 8
                          have hfz38_9 := blk_frozen BK149.out 9
                          go_wp2_with (first | ((with_reducible refine gate_callee (f := 68) rfl ?_); refine goesL_ (some 54) rfl rfl Try.func68 (by kernel_rfl) rfl #[.int .i64 a0_8, .int .i64 2, .int .i64 64] rfl (by (try simp only [List.map_toArray, List.map_cons, List.map_nil]); first | done | rfl | (simp only [List.length_drop, List.length_take]; rfl)) ?_; (with_reducible refine (flotillaref04_within.calls a0_8 2 64 true _ A26.out).mono ?_); rintro e w' ⟨rfl, ⟨nd, rfl⟩⟩; refine ⟨_, rfl, ?_⟩) | (go_at_call 68; (with_reducible refine (flotillaref04_within.calls a0_7 1 (wrap64 (a0_8 - 1)) true _ A28.out).mono ?_); rintro e w' ⟨rfl, ⟨nd, rfl⟩⟩) | (go_at_call 68; (with_reducible refine (flotillaref04_within.calls a0_9 1 8 t158 _ A30.out).mono ?_); rintro e w' ⟨rfl, ⟨nd, rfl⟩⟩))
                          go_ret
                          exact ⟨by first | rfl | (simp [errW_none, errW_some] <;> rfl) | (simp [*, errW_none, errW_some] <;> rfl), by repeat (first | (with_reducible first | exact HB.out | apply below_alloc | apply pw_below_drewN | apply below_drew1 | refine below_set ?_ GE149.out) | exact HB.out)⟩
                      · replace c33 := Bool.eq_false_iff.mpr c33
                        subst c33
                        have H1 : (some 42) = some r := by rw [if_neg (show ¬ (false = true) by decide)] at H; exact H
                        clear H
                        have H := H1
                        clear H1
                        obtain rfl := Option.some.inj H
                        have hcz39_0 : wc.cell? ⟨gb149, 0, none⟩ = some (.int .i64 a0_0) := (blk_cell BK149.out 0).trans rfl
                        have hcz39_1 : wc.cell? ⟨gb149, 1, none⟩ = some (.int .i64 a0_1) := (blk_cell BK149.out 1).trans rfl
                        have hcz39_2 : wc.cell? ⟨gb149, 2, none⟩ = some (.int .i64 a0_2) := (blk_cell BK149.out 2).trans rfl
                        have hcz39_3 : wc.cell? ⟨gb149, 3, none⟩ = some (.int .i64 a0_3) := (blk_cell BK149.out 3).trans rfl
                        have hcz39_4 : wc.cell? ⟨gb149, 4, none⟩ = some (.int .i64 a0_4) := (blk_cell BK149.out 4).trans rfl
                        have hcz39_5 : wc.cell? ⟨gb149, 5, none⟩ = some (.int .i64 a0_5) := (blk_cell BK149.out 5).trans rfl
                        have hcz39_6 : wc.cell? ⟨gb149, 6, none⟩ = some (.int .i64 a0_6) := (blk_cell BK149.out 6).trans rfl
                        have hcz39_7 : wc.cell? ⟨gb149, 7, none⟩ = some (.int .i64 a0_7) := (blk_cell BK149.out 7).trans rfl
                        have hcz39_8 : wc.cell? ⟨gb149, 8, none⟩ = some (.int .i64 a0_8) := (blk_cell BK149.out 8).trans rfl
                        have hcz39_9 : wc.cell? ⟨gb149, 9, none⟩ = some (.int .i64 a0_9) := (blk_cell BK149.out 9).trans rfl
                        have hfz39_0 := blk_frozen BK149.out 0
                        have hfz39_1 := blk_frozen BK149.out 1
                        have hfz39_2 := blk_frozen BK149.out 2
                        have hfz39_3 := blk_frozen BK149.out 3
                        have hfz39_4 := blk_frozen BK149.out 4
                        have hfz39_5 := blk_frozen BK149.out 5
                        have hfz39_6 := blk_frozen BK149.out 6
                        have hfz39_7 := blk_frozen BK149.out 7
                        have hfz39_8 := blk_frozen BK149.out 8
                        have hfz39_9 := blk_frozen BK149.out 9
                        go_wp2_with (first | ((with_reducible refine gate_callee (f := 68) rfl ?_); refine goesL_ (some 54) rfl rfl Try.func68 (by kernel_rfl) rfl #[.int .i64 a0_8, .int .i64 2, .int .i64 64] rfl (by (try simp only [List.map_toArray, List.map_cons, List.map_nil]); first | done | rfl | (simp only [List.length_drop, List.length_take]; rfl)) ?_; (with_reducible refine (flotillaref04_within.calls a0_8 2 64 true _ A26.out).mono ?_); rintro e w' ⟨rfl, ⟨nd, rfl⟩⟩; refine ⟨_, rfl, ?_⟩) | (go_at_call 68; (with_reducible refine (flotillaref04_within.calls a0_7 1 (wrap64 (a0_8 - 1)) true _ A28.out).mono ?_); rintro e w' ⟨rfl, ⟨nd, rfl⟩⟩) | (go_at_call 68; (with_reducible refine (flotillaref04_within.calls a0_9 1 8 t158 _ A30.out).mono ?_); rintro e w' ⟨rfl, ⟨nd, rfl⟩⟩))
                        go_ret
                        exact ⟨by first | rfl | (simp [errW_none, errW_some] <;> rfl) | (simp [*, errW_none, errW_some] <;> rfl), by repeat (first | (with_reducible first | exact HB.out | apply below_alloc | apply pw_below_drewN | apply below_drew1 | refine below_set ?_ GE149.out) | exact HB.out)⟩
                    · replace c32 := Bool.eq_false_iff.mpr c32
                      subst c32
                      have H1 : (some 42) = some r := by rw [if_neg (show ¬ (false = true) by decide)] at H; exact H
                      clear H
                      have H := H1
                      clear H1
                      obtain rfl := Option.some.inj H
                      have hcz40_0 : wc.cell? ⟨gb149, 0, none⟩ = some (.int .i64 a0_0) := (blk_cell BK149.out 0).trans rfl
                      have hcz40_1 : wc.cell? ⟨gb149, 1, none⟩ = some (.int .i64 a0_1) := (blk_cell BK149.out 1).trans rfl
                      have hcz40_2 : wc.cell? ⟨gb149, 2, none⟩ = some (.int .i64 a0_2) := (blk_cell BK149.out 2).trans rfl
                      have hcz40_3 : wc.cell? ⟨gb149, 3, none⟩ = some (.int .i64 a0_3) := (blk_cell BK149.out 3).trans rfl
                      have hcz40_4 : wc.cell? ⟨gb149, 4, none⟩ = some (.int .i64 a0_4) := (blk_cell BK149.out 4).trans rfl
                      have hcz40_5 : wc.cell? ⟨gb149, 5, none⟩ = some (.int .i64 a0_5) := (blk_cell BK149.out 5).trans rfl
                      have hcz40_6 : wc.cell? ⟨gb149, 6, none⟩ = some (.int .i64 a0_6) := (blk_cell BK149.out 6).trans rfl
                      have hcz40_7 : wc.cell? ⟨gb149, 7, none⟩ = some (.int .i64 a0_7) := (blk_cell BK149.out 7).trans rfl
                      have hcz40_8 : wc.cell? ⟨gb149, 8, none⟩ = some (.int .i64 a0_8) := (blk_cell BK149.out 8).trans rfl
                      have hcz40_9 : wc.cell? ⟨gb149, 9, none⟩ = some (.int .i64 a0_9) := (blk_cell BK149.out 9).trans rfl
                      have hfz40_0 := blk_frozen BK149.out 0
                      have hfz40_1 := blk_frozen BK149.out 1
                      have hfz40_2 := blk_frozen BK149.out 2
                      have hfz40_3 := blk_frozen BK149.out 3
                      have hfz40_4 := blk_frozen BK149.out 4
                      have hfz40_5 := blk_frozen BK149.out 5
                      have hfz40_6 := blk_frozen BK149.out 6
                      have hfz40_7 := blk_frozen BK149.out 7
                      have hfz40_8 := blk_frozen BK149.out 8
                      have hfz40_9 := blk_frozen BK149.out 9
                      go_wp2_with (first | ((with_reducible refine gate_callee (f := 68) rfl ?_); refine goesL_ (some 54) rfl rfl Try.func68 (by kernel_rfl) rfl #[.int .i64 a0_8, .int .i64 2, .int .i64 64] rfl (by (try simp only [List.map_toArray, List.map_cons, List.map_nil]); first | done | rfl | (simp only [List.length_drop, List.length_take]; rfl)) ?_; (with_reducible refine (flotillaref04_within.calls a0_8 2 64 true _ A26.out).mono ?_); rintro e w' ⟨rfl, ⟨nd, rfl⟩⟩; refine ⟨_, rfl, ?_⟩) | (go_at_call 68; (with_reducible refine (flotillaref04_within.calls a0_7 1 (wrap64 (a0_8 - 1)) true _ A28.out).mono ?_); rintro e w' ⟨rfl, ⟨nd, rfl⟩⟩) | (go_at_call 68; (with_reducible refine (flotillaref04_within.calls a0_9 1 8 t158 _ A30.out).mono ?_); rintro e w' ⟨rfl, ⟨nd, rfl⟩⟩))
                      go_ret
                      exact ⟨by first | rfl | (simp [errW_none, errW_some] <;> rfl) | (simp [*, errW_none, errW_some] <;> rfl), by repeat (first | (with_reducible first | exact HB.out | apply below_alloc | apply pw_below_drewN | apply below_drew1 | refine below_set ?_ GE149.out) | exact HB.out)⟩
                  · replace c31 := Bool.eq_false_iff.mpr c31
                    subst c31
                    have H1 : (some 42) = some r := by rw [if_neg (show ¬ (false = true) by decide)] at H; exact H
                    clear H
                    have H := H1
                    clear H1
                    obtain rfl := Option.some.inj H
                    have hcz41_0 : wc.cell? ⟨gb149, 0, none⟩ = some (.int .i64 a0_0) := (blk_cell BK149.out 0).trans rfl
                    have hcz41_1 : wc.cell? ⟨gb149, 1, none⟩ = some (.int .i64 a0_1) := (blk_cell BK149.out 1).trans rfl
                    have hcz41_2 : wc.cell? ⟨gb149, 2, none⟩ = some (.int .i64 a0_2) := (blk_cell BK149.out 2).trans rfl
                    have hcz41_3 : wc.cell? ⟨gb149, 3, none⟩ = some (.int .i64 a0_3) := (blk_cell BK149.out 3).trans rfl
                    have hcz41_4 : wc.cell? ⟨gb149, 4, none⟩ = some (.int .i64 a0_4) := (blk_cell BK149.out 4).trans rfl
                    have hcz41_5 : wc.cell? ⟨gb149, 5, none⟩ = some (.int .i64 a0_5) := (blk_cell BK149.out 5).trans rfl
                    have hcz41_6 : wc.cell? ⟨gb149, 6, none⟩ = some (.int .i64 a0_6) := (blk_cell BK149.out 6).trans rfl
                    have hcz41_7 : wc.cell? ⟨gb149, 7, none⟩ = some (.int .i64 a0_7) := (blk_cell BK149.out 7).trans rfl
                    have hcz41_8 : wc.cell? ⟨gb149, 8, none⟩ = some (.int .i64 a0_8) := (blk_cell BK149.out 8).trans rfl
                    have hcz41_9 : wc.cell? ⟨gb149, 9, none⟩ = some (.int .i64 a0_9) := (blk_cell BK149.out 9).trans rfl
                    have hfz41_0 := blk_frozen BK149.out 0
                    have hfz41_1 := blk_frozen BK149.out 1
                    have hfz41_2 := blk_frozen BK149.out 2
                    have hfz41_3 := blk_frozen BK149.out 3
                    have hfz41_4 := blk_frozen BK149.out 4
                    have hfz41_5 := blk_frozen BK149.out 5
                    have hfz41_6 := blk_frozen BK149.out 6
                    have hfz41_7 := blk_frozen BK149.out 7
                    have hfz41_8 := blk_frozen BK149.out 8
                    have hfz41_9 := blk_frozen BK149.out 9
                    go_wp2_with (first | ((with_reducible refine gate_callee (f := 68) rfl ?_); refine goesL_ (some 54) rfl rfl Try.func68 (by kernel_rfl) rfl #[.int .i64 a0_8, .int .i64 2, .int .i64 64] rfl (by (try simp only [List.map_toArray, List.map_cons, List.map_nil]); first | done | rfl | (simp only [List.length_drop, List.length_take]; rfl)) ?_; (with_reducible refine (flotillaref04_within.calls a0_8 2 64 true _ A26.out).mono ?_); rintro e w' ⟨rfl, ⟨nd, rfl⟩⟩; refine ⟨_, rfl, ?_⟩) | (go_at_call 68; (with_reducible refine (flotillaref04_within.calls a0_7 1 (wrap64 (a0_8 - 1)) true _ A28.out).mono ?_); rintro e w' ⟨rfl, ⟨nd, rfl⟩⟩) | (go_at_call 68; (with_reducible refine (flotillaref04_within.calls a0_9 1 8 t158 _ A30.out).mono ?_); rintro e w' ⟨rfl, ⟨nd, rfl⟩⟩))
                    go_ret
                    exact ⟨by first | rfl | (simp [errW_none, errW_some] <;> rfl) | (simp [*, errW_none, errW_some] <;> rfl), by repeat (first | (with_reducible first | exact HB.out | apply below_alloc | apply pw_below_drewN | apply below_drew1 | refine below_set ?_ GE149.out) | exact HB.out)⟩
                · replace c29 := Bool.eq_false_iff.mpr c29
                  subst c29
                  have H1 : (if x3_1 = true then (if t150 = true then (if x5_9 = true then (if x6_16 = true then (some 42) else (some 42)) else (some 42)) else (some 42)) else (some 42)) = some r := by rw [if_neg (show ¬ (false = true) by decide)] at H; exact H
                  clear H
                  have H := H1
                  clear H1
                  by_cases c42 : x3_1 = true
                  · subst c42
                    have H1 : (if t150 = true then (if x5_9 = true then (if x6_16 = true then (some 42) else (some 42)) else (some 42)) else (some 42)) = some r := by rw [if_pos rfl] at H; exact H
                    clear H
                    have H := H1
                    clear H1
                    by_cases c43 : t150 = true
                    · subst c43
                      have H1 : (if x5_9 = true then (if x6_16 = true then (some 42) else (some 42)) else (some 42)) = some r := by rw [if_pos rfl] at H; exact H
                      clear H
                      have H := H1
                      clear H1
                      by_cases c44 : x5_9 = true
                      · subst c44
                        have H1 : (if x6_16 = true then (some 42) else (some 42)) = some r := by rw [if_pos rfl] at H; exact H
                        clear H
                        have H := H1
                        clear H1
                        by_cases c45 : x6_16 = true
                        · subst c45
                          have H1 : (some 42) = some r := by rw [if_pos rfl] at H; exact H
                          clear H
                          have H := H1
                          clear H1
                          obtain rfl := Option.some.inj H
                          have hcz46_0 : wc.cell? ⟨gb149, 0, none⟩ = some (.int .i64 a0_0) := (blk_cell BK149.out 0).trans rfl
                          have hcz46_1 : wc.cell? ⟨gb149, 1, none⟩ = some (.int .i64 a0_1) := (blk_cell BK149.out 1).trans rfl
                          have hcz46_2 : wc.cell? ⟨gb149, 2, none⟩ = some (.int .i64 a0_2) := (blk_cell BK149.out 2).trans rfl
                          have hcz46_3 : wc.cell? ⟨gb149, 3, none⟩ = some (.int .i64 a0_3) := (blk_cell BK149.out 3).trans rfl
                          have hcz46_4 : wc.cell? ⟨gb149, 4, none⟩ = some (.int .i64 a0_4) := (blk_cell BK149.out 4).trans rfl
                          have hcz46_5 : wc.cell? ⟨gb149, 5, none⟩ = some (.int .i64 a0_5) := (blk_cell BK149.out 5).trans rfl
                          have hcz46_6 : wc.cell? ⟨gb149, 6, none⟩ = some (.int .i64 a0_6) := (blk_cell BK149.out 6).trans rfl
                          have hcz46_7 : wc.cell? ⟨gb149, 7, none⟩ = some (.int .i64 a0_7) := (blk_cell BK149.out 7).trans rfl
                          have hcz46_8 : wc.cell? ⟨gb149, 8, none⟩ = some (.int .i64 a0_8) := (blk_cell BK149.out 8).trans rfl
                          have hcz46_9 : wc.cell? ⟨gb149, 9, none⟩ = some (.int .i64 a0_9) := (blk_cell BK149.out 9).trans rfl
                          have hfz46_0 := blk_frozen BK149.out 0
                          have hfz46_1 := blk_frozen BK149.out 1
                          have hfz46_2 := blk_frozen BK149.out 2
                          have hfz46_3 := blk_frozen BK149.out 3
                          have hfz46_4 := blk_frozen BK149.out 4
                          have hfz46_5 := blk_frozen BK149.out 5
                          have hfz46_6 := blk_frozen BK149.out 6
                          have hfz46_7 := blk_frozen BK149.out 7
                          have hfz46_8 := blk_frozen BK149.out 8
                          have hfz46_9 := blk_frozen BK149.out 9
                          go_wp2_with (first | ((with_reducible refine gate_callee (f := 68) rfl ?_); refine goesL_ (some 54) rfl rfl Try.func68 (by kernel_rfl) rfl #[.int .i64 a0_8, .int .i64 2, .int .i64 64] rfl (by (try simp only [List.map_toArray, List.map_cons, List.map_nil]); first | done | rfl | (simp only [List.length_drop, List.length_take]; rfl)) ?_; (with_reducible refine (flotillaref04_within.calls a0_8 2 64 true _ A26.out).mono ?_); rintro e w' ⟨rfl, ⟨nd, rfl⟩⟩; refine ⟨_, rfl, ?_⟩) | (go_at_call 68; (with_reducible refine (flotillaref04_within.calls a0_7 1 (wrap64 (a0_8 - 1)) false _ A28.out).mono ?_); rintro e w' ⟨rfl, ⟨nd, rfl⟩⟩))
                          go_ret
                          exact ⟨by first | rfl | (simp [errW_none, errW_some] <;> rfl) | (simp [*, errW_none, errW_some] <;> rfl), by repeat (first | (with_reducible first | exact HB.out | apply below_alloc | apply pw_below_drewN | apply below_drew1 | refine below_set ?_ GE149.out) | exact HB.out)⟩
                        · replace c45 := Bool.eq_false_iff.mpr c45
                          subst c45
                          have H1 : (some 42) = some r := by rw [if_neg (show ¬ (false = true) by decide)] at H; exact H
                          clear H
                          have H := H1
                          clear H1
                          obtain rfl := Option.some.inj H
                          have hcz47_0 : wc.cell? ⟨gb149, 0, none⟩ = some (.int .i64 a0_0) := (blk_cell BK149.out 0).trans rfl
                          have hcz47_1 : wc.cell? ⟨gb149, 1, none⟩ = some (.int .i64 a0_1) := (blk_cell BK149.out 1).trans rfl
                          have hcz47_2 : wc.cell? ⟨gb149, 2, none⟩ = some (.int .i64 a0_2) := (blk_cell BK149.out 2).trans rfl
                          have hcz47_3 : wc.cell? ⟨gb149, 3, none⟩ = some (.int .i64 a0_3) := (blk_cell BK149.out 3).trans rfl
                          have hcz47_4 : wc.cell? ⟨gb149, 4, none⟩ = some (.int .i64 a0_4) := (blk_cell BK149.out 4).trans rfl
                          have hcz47_5 : wc.cell? ⟨gb149, 5, none⟩ = some (.int .i64 a0_5) := (blk_cell BK149.out 5).trans rfl
                          have hcz47_6 : wc.cell? ⟨gb149, 6, none⟩ = some (.int .i64 a0_6) := (blk_cell BK149.out 6).trans rfl
                          have hcz47_7 : wc.cell? ⟨gb149, 7, none⟩ = some (.int .i64 a0_7) := (blk_cell BK149.out 7).trans rfl
                          have hcz47_8 : wc.cell? ⟨gb149, 8, none⟩ = some (.int .i64 a0_8) := (blk_cell BK149.out 8).trans rfl
                          have hcz47_9 : wc.cell? ⟨gb149, 9, none⟩ = some (.int .i64 a0_9) := (blk_cell BK149.out 9).trans rfl
                          have hfz47_0 := blk_frozen BK149.out 0
                          have hfz47_1 := blk_frozen BK149.out 1
                          have hfz47_2 := blk_frozen BK149.out 2
                          have hfz47_3 := blk_frozen BK149.out 3
                          have hfz47_4 := blk_frozen BK149.out 4
                          have hfz47_5 := blk_frozen BK149.out 5
                          have hfz47_6 := blk_frozen BK149.out 6
                          have hfz47_7 := blk_frozen BK149.out 7
                          have hfz47_8 := blk_frozen BK149.out 8
                          have hfz47_9 := blk_frozen BK149.out 9
                          go_wp2_with (first | ((with_reducible refine gate_callee (f := 68) rfl ?_); refine goesL_ (some 54) rfl rfl Try.func68 (by kernel_rfl) rfl #[.int .i64 a0_8, .int .i64 2, .int .i64 64] rfl (by (try simp only [List.map_toArray, List.map_cons, List.map_nil]); first | done | rfl | (simp only [List.length_drop, List.length_take]; rfl)) ?_; (with_reducible refine (flotillaref04_within.calls a0_8 2 64 true _ A26.out).mono ?_); rintro e w' ⟨rfl, ⟨nd, rfl⟩⟩; refine ⟨_, rfl, ?_⟩) | (go_at_call 68; (with_reducible refine (flotillaref04_within.calls a0_7 1 (wrap64 (a0_8 - 1)) false _ A28.out).mono ?_); rintro e w' ⟨rfl, ⟨nd, rfl⟩⟩))
                          go_ret
                          exact ⟨by first | rfl | (simp [errW_none, errW_some] <;> rfl) | (simp [*, errW_none, errW_some] <;> rfl), by repeat (first | (with_reducible first | exact HB.out | apply below_alloc | apply pw_below_drewN | apply below_drew1 | refine below_set ?_ GE149.out) | exact HB.out)⟩
                      · replace c44 := Bool.eq_false_iff.mpr c44
                        subst c44
                        have H1 : (some 42) = some r := by rw [if_neg (show ¬ (false = true) by decide)] at H; exact H
                        clear H
                        have H := H1
                        clear H1
                        obtain rfl := Option.some.inj H
                        have hcz48_0 : wc.cell? ⟨gb149, 0, none⟩ = some (.int .i64 a0_0) := (blk_cell BK149.out 0).trans rfl
                        have hcz48_1 : wc.cell? ⟨gb149, 1, none⟩ = some (.int .i64 a0_1) := (blk_cell BK149.out 1).trans rfl
                        have hcz48_2 : wc.cell? ⟨gb149, 2, none⟩ = some (.int .i64 a0_2) := (blk_cell BK149.out 2).trans rfl
                        have hcz48_3 : wc.cell? ⟨gb149, 3, none⟩ = some (.int .i64 a0_3) := (blk_cell BK149.out 3).trans rfl
                        have hcz48_4 : wc.cell? ⟨gb149, 4, none⟩ = some (.int .i64 a0_4) := (blk_cell BK149.out 4).trans rfl
                        have hcz48_5 : wc.cell? ⟨gb149, 5, none⟩ = some (.int .i64 a0_5) := (blk_cell BK149.out 5).trans rfl
                        have hcz48_6 : wc.cell? ⟨gb149, 6, none⟩ = some (.int .i64 a0_6) := (blk_cell BK149.out 6).trans rfl
                        have hcz48_7 : wc.cell? ⟨gb149, 7, none⟩ = some (.int .i64 a0_7) := (blk_cell BK149.out 7).trans rfl
                        have hcz48_8 : wc.cell? ⟨gb149, 8, none⟩ = some (.int .i64 a0_8) := (blk_cell BK149.out 8).trans rfl
                        have hcz48_9 : wc.cell? ⟨gb149, 9, none⟩ = some (.int .i64 a0_9) := (blk_cell BK149.out 9).trans rfl
                        have hfz48_0 := blk_frozen BK149.out 0
                        have hfz48_1 := blk_frozen BK149.out 1
                        have hfz48_2 := blk_frozen BK149.out 2
                        have hfz48_3 := blk_frozen BK149.out 3
                        have hfz48_4 := blk_frozen BK149.out 4
                        have hfz48_5 := blk_frozen BK149.out 5
                        have hfz48_6 := blk_frozen BK149.out 6
                        have hfz48_7 := blk_frozen BK149.out 7
                        have hfz48_8 := blk_frozen BK149.out 8
                        have hfz48_9 := blk_frozen BK149.out 9
                        go_wp2_with (first | ((with_reducible refine gate_callee (f := 68) rfl ?_); refine goesL_ (some 54) rfl rfl Try.func68 (by kernel_rfl) rfl #[.int .i64 a0_8, .int .i64 2, .int .i64 64] rfl (by (try simp only [List.map_toArray, List.map_cons, List.map_nil]); first | done | rfl | (simp only [List.length_drop, List.length_take]; rfl)) ?_; (with_reducible refine (flotillaref04_within.calls a0_8 2 64 true _ A26.out).mono ?_); rintro e w' ⟨rfl, ⟨nd, rfl⟩⟩; refine ⟨_, rfl, ?_⟩) | (go_at_call 68; (with_reducible refine (flotillaref04_within.calls a0_7 1 (wrap64 (a0_8 - 1)) false _ A28.out).mono ?_); rintro e w' ⟨rfl, ⟨nd, rfl⟩⟩))
                        go_ret
                        exact ⟨by first | rfl | (simp [errW_none, errW_some] <;> rfl) | (simp [*, errW_none, errW_some] <;> rfl), by repeat (first | (with_reducible first | exact HB.out | apply below_alloc | apply pw_below_drewN | apply below_drew1 | refine below_set ?_ GE149.out) | exact HB.out)⟩
                    · replace c43 := Bool.eq_false_iff.mpr c43
                      subst c43
                      have H1 : (some 42) = some r := by rw [if_neg (show ¬ (false = true) by decide)] at H; exact H
                      clear H
                      have H := H1
                      clear H1
                      obtain rfl := Option.some.inj H
                      have hcz49_0 : wc.cell? ⟨gb149, 0, none⟩ = some (.int .i64 a0_0) := (blk_cell BK149.out 0).trans rfl
                      have hcz49_1 : wc.cell? ⟨gb149, 1, none⟩ = some (.int .i64 a0_1) := (blk_cell BK149.out 1).trans rfl
                      have hcz49_2 : wc.cell? ⟨gb149, 2, none⟩ = some (.int .i64 a0_2) := (blk_cell BK149.out 2).trans rfl
                      have hcz49_3 : wc.cell? ⟨gb149, 3, none⟩ = some (.int .i64 a0_3) := (blk_cell BK149.out 3).trans rfl
                      have hcz49_4 : wc.cell? ⟨gb149, 4, none⟩ = some (.int .i64 a0_4) := (blk_cell BK149.out 4).trans rfl
                      have hcz49_5 : wc.cell? ⟨gb149, 5, none⟩ = some (.int .i64 a0_5) := (blk_cell BK149.out 5).trans rfl
                      have hcz49_6 : wc.cell? ⟨gb149, 6, none⟩ = some (.int .i64 a0_6) := (blk_cell BK149.out 6).trans rfl
                      have hcz49_7 : wc.cell? ⟨gb149, 7, none⟩ = some (.int .i64 a0_7) := (blk_cell BK149.out 7).trans rfl
                      have hcz49_8 : wc.cell? ⟨gb149, 8, none⟩ = some (.int .i64 a0_8) := (blk_cell BK149.out 8).trans rfl
                      have hcz49_9 : wc.cell? ⟨gb149, 9, none⟩ = some (.int .i64 a0_9) := (blk_cell BK149.out 9).trans rfl
                      have hfz49_0 := blk_frozen BK149.out 0
                      have hfz49_1 := blk_frozen BK149.out 1
                      have hfz49_2 := blk_frozen BK149.out 2
                      have hfz49_3 := blk_frozen BK149.out 3
                      have hfz49_4 := blk_frozen BK149.out 4
                      have hfz49_5 := blk_frozen BK149.out 5
                      have hfz49_6 := blk_frozen BK149.out 6
                      have hfz49_7 := blk_frozen BK149.out 7
                      have hfz49_8 := blk_frozen BK149.out 8
                      have hfz49_9 := blk_frozen BK149.out 9
                      go_wp2_with (first | ((with_reducible refine gate_callee (f := 68) rfl ?_); refine goesL_ (some 54) rfl rfl Try.func68 (by kernel_rfl) rfl #[.int .i64 a0_8, .int .i64 2, .int .i64 64] rfl (by (try simp only [List.map_toArray, List.map_cons, List.map_nil]); first | done | rfl | (simp only [List.length_drop, List.length_take]; rfl)) ?_; (with_reducible refine (flotillaref04_within.calls a0_8 2 64 true _ A26.out).mono ?_); rintro e w' ⟨rfl, ⟨nd, rfl⟩⟩; refine ⟨_, rfl, ?_⟩) | (go_at_call 68; (with_reducible refine (flotillaref04_within.calls a0_7 1 (wrap64 (a0_8 - 1)) false _ A28.out).mono ?_); rintro e w' ⟨rfl, ⟨nd, rfl⟩⟩))
                      go_ret
                      exact ⟨by first | rfl | (simp [errW_none, errW_some] <;> rfl) | (simp [*, errW_none, errW_some] <;> rfl), by repeat (first | (with_reducible first | exact HB.out | apply below_alloc | apply pw_below_drewN | apply below_drew1 | refine below_set ?_ GE149.out) | exact HB.out)⟩
                  · replace c42 := Bool.eq_false_iff.mpr c42
                    subst c42
                    have H1 : (some 42) = some r := by rw [if_neg (show ¬ (false = true) by decide)] at H; exact H
                    clear H
                    have H := H1
                    clear H1
                    obtain rfl := Option.some.inj H
                    have hcz50_0 : wc.cell? ⟨gb149, 0, none⟩ = some (.int .i64 a0_0) := (blk_cell BK149.out 0).trans rfl
                    have hcz50_1 : wc.cell? ⟨gb149, 1, none⟩ = some (.int .i64 a0_1) := (blk_cell BK149.out 1).trans rfl
                    have hcz50_2 : wc.cell? ⟨gb149, 2, none⟩ = some (.int .i64 a0_2) := (blk_cell BK149.out 2).trans rfl
                    have hcz50_3 : wc.cell? ⟨gb149, 3, none⟩ = some (.int .i64 a0_3) := (blk_cell BK149.out 3).trans rfl
                    have hcz50_4 : wc.cell? ⟨gb149, 4, none⟩ = some (.int .i64 a0_4) := (blk_cell BK149.out 4).trans rfl
                    have hcz50_5 : wc.cell? ⟨gb149, 5, none⟩ = some (.int .i64 a0_5) := (blk_cell BK149.out 5).trans rfl
                    have hcz50_6 : wc.cell? ⟨gb149, 6, none⟩ = some (.int .i64 a0_6) := (blk_cell BK149.out 6).trans rfl
                    have hcz50_7 : wc.cell? ⟨gb149, 7, none⟩ = some (.int .i64 a0_7) := (blk_cell BK149.out 7).trans rfl
                    have hcz50_8 : wc.cell? ⟨gb149, 8, none⟩ = some (.int .i64 a0_8) := (blk_cell BK149.out 8).trans rfl
                    have hcz50_9 : wc.cell? ⟨gb149, 9, none⟩ = some (.int .i64 a0_9) := (blk_cell BK149.out 9).trans rfl
                    have hfz50_0 := blk_frozen BK149.out 0
                    have hfz50_1 := blk_frozen BK149.out 1
                    have hfz50_2 := blk_frozen BK149.out 2
                    have hfz50_3 := blk_frozen BK149.out 3
                    have hfz50_4 := blk_frozen BK149.out 4
                    have hfz50_5 := blk_frozen BK149.out 5
                    have hfz50_6 := blk_frozen BK149.out 6
                    have hfz50_7 := blk_frozen BK149.out 7
                    have hfz50_8 := blk_frozen BK149.out 8
                    have hfz50_9 := blk_frozen BK149.out 9
                    go_wp2_with (first | ((with_reducible refine gate_callee (f := 68) rfl ?_); refine goesL_ (some 54) rfl rfl Try.func68 (by kernel_rfl) rfl #[.int .i64 a0_8, .int .i64 2, .int .i64 64] rfl (by (try simp only [List.map_toArray, List.map_cons, List.map_nil]); first | done | rfl | (simp only [List.length_drop, List.length_take]; rfl)) ?_; (with_reducible refine (flotillaref04_within.calls a0_8 2 64 true _ A26.out).mono ?_); rintro e w' ⟨rfl, ⟨nd, rfl⟩⟩; refine ⟨_, rfl, ?_⟩) | (go_at_call 68; (with_reducible refine (flotillaref04_within.calls a0_7 1 (wrap64 (a0_8 - 1)) false _ A28.out).mono ?_); rintro e w' ⟨rfl, ⟨nd, rfl⟩⟩))
                    go_ret
                    exact ⟨by first | rfl | (simp [errW_none, errW_some] <;> rfl) | (simp [*, errW_none, errW_some] <;> rfl), by repeat (first | (with_reducible first | exact HB.out | apply below_alloc | apply pw_below_drewN | apply below_drew1 | refine below_set ?_ GE149.out) | exact HB.out)⟩
              · replace c27 := Bool.eq_false_iff.mpr c27
                subst c27
                have H1 : (if x3_1 = true then (if t150 = true then (if x5_9 = true then (if x6_16 = true then (some 42) else (some 42)) else (some 42)) else (some 42)) else (some 42)) = some r := by rw [if_neg (show ¬ (false = true) by decide)] at H; exact H
                clear H
                have H := H1
                clear H1
                by_cases c51 : x3_1 = true
                · subst c51
                  have H1 : (if t150 = true then (if x5_9 = true then (if x6_16 = true then (some 42) else (some 42)) else (some 42)) else (some 42)) = some r := by rw [if_pos rfl] at H; exact H
                  clear H
                  have H := H1
                  clear H1
                  by_cases c52 : t150 = true
                  · subst c52
                    have H1 : (if x5_9 = true then (if x6_16 = true then (some 42) else (some 42)) else (some 42)) = some r := by rw [if_pos rfl] at H; exact H
                    clear H
                    have H := H1
                    clear H1
                    by_cases c53 : x5_9 = true
                    · subst c53
                      have H1 : (if x6_16 = true then (some 42) else (some 42)) = some r := by rw [if_pos rfl] at H; exact H
                      clear H
                      have H := H1
                      clear H1
                      by_cases c54 : x6_16 = true
                      · subst c54
                        have H1 : (some 42) = some r := by rw [if_pos rfl] at H; exact H
                        clear H
                        have H := H1
                        clear H1
                        obtain rfl := Option.some.inj H
                        have hcz55_0 : wc.cell? ⟨gb149, 0, none⟩ = some (.int .i64 a0_0) := (blk_cell BK149.out 0).trans rfl
                        have hcz55_1 : wc.cell? ⟨gb149, 1, none⟩ = some (.int .i64 a0_1) := (blk_cell BK149.out 1).trans rfl
                        have hcz55_2 : wc.cell? ⟨gb149, 2, none⟩ = some (.int .i64 a0_2) := (blk_cell BK149.out 2).trans rfl
                        have hcz55_3 : wc.cell? ⟨gb149, 3, none⟩ = some (.int .i64 a0_3) := (blk_cell BK149.out 3).trans rfl
                        have hcz55_4 : wc.cell? ⟨gb149, 4, none⟩ = some (.int .i64 a0_4) := (blk_cell BK149.out 4).trans rfl
                        have hcz55_5 : wc.cell? ⟨gb149, 5, none⟩ = some (.int .i64 a0_5) := (blk_cell BK149.out 5).trans rfl
                        have hcz55_6 : wc.cell? ⟨gb149, 6, none⟩ = some (.int .i64 a0_6) := (blk_cell BK149.out 6).trans rfl
                        have hcz55_7 : wc.cell? ⟨gb149, 7, none⟩ = some (.int .i64 a0_7) := (blk_cell BK149.out 7).trans rfl
                        have hcz55_8 : wc.cell? ⟨gb149, 8, none⟩ = some (.int .i64 a0_8) := (blk_cell BK149.out 8).trans rfl
                        have hcz55_9 : wc.cell? ⟨gb149, 9, none⟩ = some (.int .i64 a0_9) := (blk_cell BK149.out 9).trans rfl
                        have hfz55_0 := blk_frozen BK149.out 0
                        have hfz55_1 := blk_frozen BK149.out 1
                        have hfz55_2 := blk_frozen BK149.out 2
                        have hfz55_3 := blk_frozen BK149.out 3
                        have hfz55_4 := blk_frozen BK149.out 4
                        have hfz55_5 := blk_frozen BK149.out 5
                        have hfz55_6 := blk_frozen BK149.out 6
                        have hfz55_7 := blk_frozen BK149.out 7
                        have hfz55_8 := blk_frozen BK149.out 8
                        have hfz55_9 := blk_frozen BK149.out 9
                        go_wp2_with (first | ((with_reducible refine gate_callee (f := 68) rfl ?_); refine goesL_ (some 54) rfl rfl Try.func68 (by kernel_rfl) rfl #[.int .i64 a0_8, .int .i64 2, .int .i64 64] rfl (by (try simp only [List.map_toArray, List.map_cons, List.map_nil]); first | done | rfl | (simp only [List.length_drop, List.length_take]; rfl)) ?_; (with_reducible refine (flotillaref04_within.calls a0_8 2 64 false _ A26.out).mono ?_); rintro e w' ⟨rfl, ⟨nd, rfl⟩⟩; refine ⟨_, rfl, ?_⟩))
                        go_ret
                        exact ⟨by first | rfl | (simp [errW_none, errW_some] <;> rfl) | (simp [*, errW_none, errW_some] <;> rfl), by repeat (first | (with_reducible first | exact HB.out | apply below_alloc | apply pw_below_drewN | apply below_drew1 | refine below_set ?_ GE149.out) | exact HB.out)⟩
                      · replace c54 := Bool.eq_false_iff.mpr c54
                        subst c54
                        have H1 : (some 42) = some r := by rw [if_neg (show ¬ (false = true) by decide)] at H; exact H
                        clear H
                        have H := H1
                        clear H1
                        obtain rfl := Option.some.inj H
                        have hcz56_0 : wc.cell? ⟨gb149, 0, none⟩ = some (.int .i64 a0_0) := (blk_cell BK149.out 0).trans rfl
                        have hcz56_1 : wc.cell? ⟨gb149, 1, none⟩ = some (.int .i64 a0_1) := (blk_cell BK149.out 1).trans rfl
                        have hcz56_2 : wc.cell? ⟨gb149, 2, none⟩ = some (.int .i64 a0_2) := (blk_cell BK149.out 2).trans rfl
                        have hcz56_3 : wc.cell? ⟨gb149, 3, none⟩ = some (.int .i64 a0_3) := (blk_cell BK149.out 3).trans rfl
                        have hcz56_4 : wc.cell? ⟨gb149, 4, none⟩ = some (.int .i64 a0_4) := (blk_cell BK149.out 4).trans rfl
                        have hcz56_5 : wc.cell? ⟨gb149, 5, none⟩ = some (.int .i64 a0_5) := (blk_cell BK149.out 5).trans rfl
                        have hcz56_6 : wc.cell? ⟨gb149, 6, none⟩ = some (.int .i64 a0_6) := (blk_cell BK149.out 6).trans rfl
                        have hcz56_7 : wc.cell? ⟨gb149, 7, none⟩ = some (.int .i64 a0_7) := (blk_cell BK149.out 7).trans rfl
                        have hcz56_8 : wc.cell? ⟨gb149, 8, none⟩ = some (.int .i64 a0_8) := (blk_cell BK149.out 8).trans rfl
                        have hcz56_9 : wc.cell? ⟨gb149, 9, none⟩ = some (.int .i64 a0_9) := (blk_cell BK149.out 9).trans rfl
                        have hfz56_0 := blk_frozen BK149.out 0
                        have hfz56_1 := blk_frozen BK149.out 1
                        have hfz56_2 := blk_frozen BK149.out 2
                        have hfz56_3 := blk_frozen BK149.out 3
                        have hfz56_4 := blk_frozen BK149.out 4
                        have hfz56_5 := blk_frozen BK149.out 5
                        have hfz56_6 := blk_frozen BK149.out 6
                        have hfz56_7 := blk_frozen BK149.out 7
                        have hfz56_8 := blk_frozen BK149.out 8
                        have hfz56_9 := blk_frozen BK149.out 9
                        go_wp2_with (first | ((with_reducible refine gate_callee (f := 68) rfl ?_); refine goesL_ (some 54) rfl rfl Try.func68 (by kernel_rfl) rfl #[.int .i64 a0_8, .int .i64 2, .int .i64 64] rfl (by (try simp only [List.map_toArray, List.map_cons, List.map_nil]); first | done | rfl | (simp only [List.length_drop, List.length_take]; rfl)) ?_; (with_reducible refine (flotillaref04_within.calls a0_8 2 64 false _ A26.out).mono ?_); rintro e w' ⟨rfl, ⟨nd, rfl⟩⟩; refine ⟨_, rfl, ?_⟩))
                        go_ret
                        exact ⟨by first | rfl | (simp [errW_none, errW_some] <;> rfl) | (simp [*, errW_none, errW_some] <;> rfl), by repeat (first | (with_reducible first | exact HB.out | apply below_alloc | apply pw_below_drewN | apply below_drew1 | refine below_set ?_ GE149.out) | exact HB.out)⟩
                    · replace c53 := Bool.eq_false_iff.mpr c53
                      subst c53
                      have H1 : (some 42) = some r := by rw [if_neg (show ¬ (false = true) by decide)] at H; exact H
                      clear H
                      have H := H1
                      clear H1
                      obtain rfl := Option.some.inj H
                      have hcz57_0 : wc.cell? ⟨gb149, 0, none⟩ = some (.int .i64 a0_0) := (blk_cell BK149.out 0).trans rfl
                      have hcz57_1 : wc.cell? ⟨gb149, 1, none⟩ = some (.int .i64 a0_1) := (blk_cell BK149.out 1).trans rfl
                      have hcz57_2 : wc.cell? ⟨gb149, 2, none⟩ = some (.int .i64 a0_2) := (blk_cell BK149.out 2).trans rfl
                      have hcz57_3 : wc.cell? ⟨gb149, 3, none⟩ = some (.int .i64 a0_3) := (blk_cell BK149.out 3).trans rfl
                      have hcz57_4 : wc.cell? ⟨gb149, 4, none⟩ = some (.int .i64 a0_4) := (blk_cell BK149.out 4).trans rfl
                      have hcz57_5 : wc.cell? ⟨gb149, 5, none⟩ = some (.int .i64 a0_5) := (blk_cell BK149.out 5).trans rfl
                      have hcz57_6 : wc.cell? ⟨gb149, 6, none⟩ = some (.int .i64 a0_6) := (blk_cell BK149.out 6).trans rfl
                      have hcz57_7 : wc.cell? ⟨gb149, 7, none⟩ = some (.int .i64 a0_7) := (blk_cell BK149.out 7).trans rfl
                      have hcz57_8 : wc.cell? ⟨gb149, 8, none⟩ = some (.int .i64 a0_8) := (blk_cell BK149.out 8).trans rfl
                      have hcz57_9 : wc.cell? ⟨gb149, 9, none⟩ = some (.int .i64 a0_9) := (blk_cell BK149.out 9).trans rfl
                      have hfz57_0 := blk_frozen BK149.out 0
                      have hfz57_1 := blk_frozen BK149.out 1
                      have hfz57_2 := blk_frozen BK149.out 2
                      have hfz57_3 := blk_frozen BK149.out 3
                      have hfz57_4 := blk_frozen BK149.out 4
                      have hfz57_5 := blk_frozen BK149.out 5
                      have hfz57_6 := blk_frozen BK149.out 6
                      have hfz57_7 := blk_frozen BK149.out 7
                      have hfz57_8 := blk_frozen BK149.out 8
                      have hfz57_9 := blk_frozen BK149.out 9
                      go_wp2_with (first | ((with_reducible refine gate_callee (f := 68) rfl ?_); refine goesL_ (some 54) rfl rfl Try.func68 (by kernel_rfl) rfl #[.int .i64 a0_8, .int .i64 2, .int .i64 64] rfl (by (try simp only [List.map_toArray, List.map_cons, List.map_nil]); first | done | rfl | (simp only [List.length_drop, List.length_take]; rfl)) ?_; (with_reducible refine (flotillaref04_within.calls a0_8 2 64 false _ A26.out).mono ?_); rintro e w' ⟨rfl, ⟨nd, rfl⟩⟩; refine ⟨_, rfl, ?_⟩))
                      go_ret
                      exact ⟨by first | rfl | (simp [errW_none, errW_some] <;> rfl) | (simp [*, errW_none, errW_some] <;> rfl), by repeat (first | (with_reducible first | exact HB.out | apply below_alloc | apply pw_below_drewN | apply below_drew1 | refine below_set ?_ GE149.out) | exact HB.out)⟩
                  · replace c52 := Bool.eq_false_iff.mpr c52
                    subst c52
                    have H1 : (some 42) = some r := by rw [if_neg (show ¬ (false = true) by decide)] at H; exact H
                    clear H
                    have H := H1
                    clear H1
                    obtain rfl := Option.some.inj H
                    have hcz58_0 : wc.cell? ⟨gb149, 0, none⟩ = some (.int .i64 a0_0) := (blk_cell BK149.out 0).trans rfl
                    have hcz58_1 : wc.cell? ⟨gb149, 1, none⟩ = some (.int .i64 a0_1) := (blk_cell BK149.out 1).trans rfl
                    have hcz58_2 : wc.cell? ⟨gb149, 2, none⟩ = some (.int .i64 a0_2) := (blk_cell BK149.out 2).trans rfl
                    have hcz58_3 : wc.cell? ⟨gb149, 3, none⟩ = some (.int .i64 a0_3) := (blk_cell BK149.out 3).trans rfl
                    have hcz58_4 : wc.cell? ⟨gb149, 4, none⟩ = some (.int .i64 a0_4) := (blk_cell BK149.out 4).trans rfl
                    have hcz58_5 : wc.cell? ⟨gb149, 5, none⟩ = some (.int .i64 a0_5) := (blk_cell BK149.out 5).trans rfl
                    have hcz58_6 : wc.cell? ⟨gb149, 6, none⟩ = some (.int .i64 a0_6) := (blk_cell BK149.out 6).trans rfl
                    have hcz58_7 : wc.cell? ⟨gb149, 7, none⟩ = some (.int .i64 a0_7) := (blk_cell BK149.out 7).trans rfl
                    have hcz58_8 : wc.cell? ⟨gb149, 8, none⟩ = some (.int .i64 a0_8) := (blk_cell BK149.out 8).trans rfl
                    have hcz58_9 : wc.cell? ⟨gb149, 9, none⟩ = some (.int .i64 a0_9) := (blk_cell BK149.out 9).trans rfl
                    have hfz58_0 := blk_frozen BK149.out 0
                    have hfz58_1 := blk_frozen BK149.out 1
                    have hfz58_2 := blk_frozen BK149.out 2
                    have hfz58_3 := blk_frozen BK149.out 3
                    have hfz58_4 := blk_frozen BK149.out 4
                    have hfz58_5 := blk_frozen BK149.out 5
                    have hfz58_6 := blk_frozen BK149.out 6
                    have hfz58_7 := blk_frozen BK149.out 7
                    have hfz58_8 := blk_frozen BK149.out 8
                    have hfz58_9 := blk_frozen BK149.out 9
                    go_wp2_with (first | ((with_reducible refine gate_callee (f := 68) rfl ?_); refine goesL_ (some 54) rfl rfl Try.func68 (by kernel_rfl) rfl #[.int .i64 a0_8, .int .i64 2, .int .i64 64] rfl (by (try simp only [List.map_toArray, List.map_cons, List.map_nil]); first | done | rfl | (simp only [List.length_drop, List.length_take]; rfl)) ?_; (with_reducible refine (flotillaref04_within.calls a0_8 2 64 false _ A26.out).mono ?_); rintro e w' ⟨rfl, ⟨nd, rfl⟩⟩; refine ⟨_, rfl, ?_⟩))
                    go_ret
                    exact ⟨by first | rfl | (simp [errW_none, errW_some] <;> rfl) | (simp [*, errW_none, errW_some] <;> rfl), by repeat (first | (with_reducible first | exact HB.out | apply below_alloc | apply pw_below_drewN | apply below_drew1 | refine below_set ?_ GE149.out) | exact HB.out)⟩
                · replace c51 := Bool.eq_false_iff.mpr c51
                  subst c51
                  have H1 : (some 42) = some r := by rw [if_neg (show ¬ (false = true) by decide)] at H; exact H
                  clear H
                  have H := H1
                  clear H1
                  obtain rfl := Option.some.inj H
                  have hcz59_0 : wc.cell? ⟨gb149, 0, none⟩ = some (.int .i64 a0_0) := (blk_cell BK149.out 0).trans rfl
                  have hcz59_1 : wc.cell? ⟨gb149, 1, none⟩ = some (.int .i64 a0_1) := (blk_cell BK149.out 1).trans rfl
                  have hcz59_2 : wc.cell? ⟨gb149, 2, none⟩ = some (.int .i64 a0_2) := (blk_cell BK149.out 2).trans rfl
                  have hcz59_3 : wc.cell? ⟨gb149, 3, none⟩ = some (.int .i64 a0_3) := (blk_cell BK149.out 3).trans rfl
                  have hcz59_4 : wc.cell? ⟨gb149, 4, none⟩ = some (.int .i64 a0_4) := (blk_cell BK149.out 4).trans rfl
                  have hcz59_5 : wc.cell? ⟨gb149, 5, none⟩ = some (.int .i64 a0_5) := (blk_cell BK149.out 5).trans rfl
                  have hcz59_6 : wc.cell? ⟨gb149, 6, none⟩ = some (.int .i64 a0_6) := (blk_cell BK149.out 6).trans rfl
                  have hcz59_7 : wc.cell? ⟨gb149, 7, none⟩ = some (.int .i64 a0_7) := (blk_cell BK149.out 7).trans rfl
                  have hcz59_8 : wc.cell? ⟨gb149, 8, none⟩ = some (.int .i64 a0_8) := (blk_cell BK149.out 8).trans rfl
                  have hcz59_9 : wc.cell? ⟨gb149, 9, none⟩ = some (.int .i64 a0_9) := (blk_cell BK149.out 9).trans rfl
                  have hfz59_0 := blk_frozen BK149.out 0
                  have hfz59_1 := blk_frozen BK149.out 1
                  have hfz59_2 := blk_frozen BK149.out 2
                  have hfz59_3 := blk_frozen BK149.out 3
                  have hfz59_4 := blk_frozen BK149.out 4
                  have hfz59_5 := blk_frozen BK149.out 5
                  have hfz59_6 := blk_frozen BK149.out 6
                  have hfz59_7 := blk_frozen BK149.out 7
                  have hfz59_8 := blk_frozen BK149.out 8
                  have hfz59_9 := blk_frozen BK149.out 9
                  go_wp2_with (first | ((with_reducible refine gate_callee (f := 68) rfl ?_); refine goesL_ (some 54) rfl rfl Try.func68 (by kernel_rfl) rfl #[.int .i64 a0_8, .int .i64 2, .int .i64 64] rfl (by (try simp only [List.map_toArray, List.map_cons, List.map_nil]); first | done | rfl | (simp only [List.length_drop, List.length_take]; rfl)) ?_; (with_reducible refine (flotillaref04_within.calls a0_8 2 64 false _ A26.out).mono ?_); rintro e w' ⟨rfl, ⟨nd, rfl⟩⟩; refine ⟨_, rfl, ?_⟩))
                  go_ret
                  exact ⟨by first | rfl | (simp [errW_none, errW_some] <;> rfl) | (simp [*, errW_none, errW_some] <;> rfl), by repeat (first | (with_reducible first | exact HB.out | apply below_alloc | apply pw_below_drewN | apply below_drew1 | refine below_set ?_ GE149.out) | exact HB.out)⟩

end Go.Proofs.Ytkgamiojoekegab.PVotesConfigs
