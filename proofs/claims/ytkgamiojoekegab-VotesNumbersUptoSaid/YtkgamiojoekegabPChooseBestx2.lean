-- PRINTED BY print.sh 35421559b90ae4d0a3588c463048766b98c2df88dd9212a6774a882060cdf62d: not written by this session
import Derived.Test.YtkgamiojoekegabPChooseBestx0
import Derived.Test.YtkgamiojoekegabPChooseBestx1
namespace Go.Proofs.Ytkgamiojoekegab.PChooseBest
open Go.RowKit Go.Proofs.YtkgamiojoekegabW.PrintWords Go.Proofs.YtkgamiojoekegabW.PrintLast Go.Proofs.YtkgamiojoekegabW.PrintMore
attribute [local go_sem] max2_int min2_int max_two min_two max_three min_three max_four min_four   -- for this text's walks alone
set_option linter.unusedVariables false
set_option linter.unusedSimpArgs false

/-! ### flotillaref12_Best: function 45 -/
mutual
def flotillaref12_Best.l0 : Nat → Int → List (S26) → List (S26) → Int → Int → Option (Int × Int × Int)
  | 0, _, _, _, _, _ => none
  | k + 1, x0, x1, x20, x21, x22 => if x22 < x21 then (if 0 ≤ x22 then (if x22 < (x20.length : Int) then (if ((rd_T26 x20 x22).f0) < 0 then (flotillaref12_Best.j1 k x0 x1 x22 x20 x21 x22 true ((rd_T26 x20 x22).f0) ((rd_T26 x20 x22).f1) ((rd_T26 x20 x22).f2) ((rd_T26 x20 x22).f3)) else (flotillaref12_Best.j1 k x0 x1 x22 x20 x21 x22 (decide (((rd_T26 x20 x22).f0) ≥ x0)) ((rd_T26 x20 x22).f0) ((rd_T26 x20 x22).f1) ((rd_T26 x20 x22).f2) ((rd_T26 x20 x22).f3))) else (none)) else (none)) else (if 0 < (x1.length : Int) then (flotillaref12_Best.l2 k x1 0 ((rd_T26 x1 0).f3) x1 (x1.length : Int) 0) else (none))
def flotillaref12_Best.j1 : Nat → Int → List (S26) → Int → List (S26) → Int → Int → Bool → Int → Int → Int → Int → Option (Int × Int × Int)
  | 0, _, _, _, _, _, _, _, _, _, _, _ => none
  | k + 1, x0, x1, x7, x20, x21, x22, x35, x111000, x111001, x111002, x111003 => if x35 = true then (some (0, 0, 121)) else (if 0 ≤ x7 then (if x7 ≤ (x1.length : Int) then ((some (x1.take (x7 : Int).toNat : List (S26))).bind fun y111 => (flotillaref12_Best.l1 k x0 x1 x20 x21 x22 y111 (y111.length : Int) 0 x111000 x111001 x111002 x111003)) else (none)) else (none))
def flotillaref12_Best.l1 : Nat → Int → List (S26) → List (S26) → Int → Int → List (S26) → Int → Int → Int → Int → Int → Int → Option (Int × Int × Int)
  | 0, _, _, _, _, _, _, _, _, _, _, _, _ => none
  | k + 1, x0, x1, x20, x21, x22, x38, x39, x40, x111000, x111001, x111002, x111003 => if x40 < x39 then (if 0 ≤ x40 then (if x40 < (x38.length : Int) then (if ((rd_T26 x38 x40).f0) = x111000 then (some (0, 0, 121)) else (flotillaref12_Best.l1 k x0 x1 x20 x21 x22 x38 x39 (wrap64 (x40 + 1)) x111000 x111001 x111002 x111003)) else (none)) else (none)) else (flotillaref12_Best.l0 k x0 x1 x20 x21 (wrap64 (x22 + 1)))
def flotillaref12_Best.l2 : Nat → List (S26) → Int → Int → List (S26) → Int → Int → Option (Int × Int × Int)
  | 0, _, _, _, _, _, _ => none
  | k + 1, x1, x11, x12, x55, x56, x57 => if x57 < x56 then (if 0 ≤ x57 then (if x57 < (x55.length : Int) then (if 0 ≤ x11 then (if x11 < (x1.length : Int) then ((flotillaref12_ahead.f ((rd_T26 x55 x57).f0) ((rd_T26 x55 x57).f1) ((rd_T26 x55 x57).f2) ((rd_T26 x55 x57).f3) ((rd_T26 x1 x11).f0) ((rd_T26 x1 x11).f1) ((rd_T26 x1 x11).f2) ((rd_T26 x1 x11).f3)).bind fun t121 => (if t121 = true then (if ((rd_T26 x55 x57).f3) > x12 then (flotillaref12_Best.l2 k x1 x57 ((rd_T26 x55 x57).f3) x55 x56 (wrap64 (x57 + 1))) else (flotillaref12_Best.l2 k x1 x57 x12 x55 x56 (wrap64 (x57 + 1)))) else (if ((rd_T26 x55 x57).f3) > x12 then (flotillaref12_Best.l2 k x1 x11 ((rd_T26 x55 x57).f3) x55 x56 (wrap64 (x57 + 1))) else (flotillaref12_Best.l2 k x1 x11 x12 x55 x56 (wrap64 (x57 + 1)))))) else (none)) else (none)) else (none)) else (none)) else (some (x11, x12, 0))
end
def flotillaref12_Best.f (k : Nat) (a0 : Int) (l1 : List (S26)) : Option (Int × Int × Int) := (flotillaref12_sized.f a0 (l1.length : Int)).bind fun t108 => (if t108 = true then (flotillaref12_Best.l0 k a0 l1 l1 (l1.length : Int) 0) else (some (0, 0, 120)))
theorem flotillaref12_Best.mono_l : ∀ k, (∀ y0 y1 y2 y3 y4, LeO (flotillaref12_Best.l0 k y0 y1 y2 y3 y4) (flotillaref12_Best.l0 (k + 1) y0 y1 y2 y3 y4)) ∧ (∀ y0 y1 y2 y3 y4 y5 y6 y7 y8 y9 y10, LeO (flotillaref12_Best.j1 k y0 y1 y2 y3 y4 y5 y6 y7 y8 y9 y10) (flotillaref12_Best.j1 (k + 1) y0 y1 y2 y3 y4 y5 y6 y7 y8 y9 y10)) ∧ (∀ y0 y1 y2 y3 y4 y5 y6 y7 y8 y9 y10 y11, LeO (flotillaref12_Best.l1 k y0 y1 y2 y3 y4 y5 y6 y7 y8 y9 y10 y11) (flotillaref12_Best.l1 (k + 1) y0 y1 y2 y3 y4 y5 y6 y7 y8 y9 y10 y11)) ∧ (∀ y0 y1 y2 y3 y4 y5, LeO (flotillaref12_Best.l2 k y0 y1 y2 y3 y4 y5) (flotillaref12_Best.l2 (k + 1) y0 y1 y2 y3 y4 y5))
  | 0 => ⟨fun _ _ _ _ _ r h => by simp [flotillaref12_Best.l0] at h, fun _ _ _ _ _ _ _ _ _ _ _ r h => by simp [flotillaref12_Best.j1] at h, fun _ _ _ _ _ _ _ _ _ _ _ _ r h => by simp [flotillaref12_Best.l1] at h, fun _ _ _ _ _ _ r h => by simp [flotillaref12_Best.l2] at h⟩
  | k + 1 => by
    obtain ⟨ih0, ih1, ih2, ih3⟩ := flotillaref12_Best.mono_l k
    refine ⟨?_, ?_, ?_, ?_⟩
    · intro y0 y1 y2 y3 y4
      unfold flotillaref12_Best.l0
      repeat' first
      | (with_reducible exact ih0 _ _ _ _ _)
      | (with_reducible exact ih1 _ _ _ _ _ _ _ _ _ _ _)
      | (with_reducible exact ih2 _ _ _ _ _ _ _ _ _ _ _ _)
      | (with_reducible exact ih3 _ _ _ _ _ _)
      | (with_reducible exact LeO.refl _)
      | (with_reducible exact LeO.none _)
      | (with_reducible refine LeO.ite ?_ ?_)
      | (with_reducible refine LeO.bind ?_ (fun _ => ?_))
      | exact ih0 _ _ _ _ _
      | exact ih1 _ _ _ _ _ _ _ _ _ _ _
      | exact ih2 _ _ _ _ _ _ _ _ _ _ _ _
      | exact ih3 _ _ _ _ _ _
      | exact LeO.none _
      | refine LeO.ite ?_ ?_
      | refine LeO.bind ?_ (fun _ => ?_)
    · intro y0 y1 y2 y3 y4 y5 y6 y7 y8 y9 y10
      unfold flotillaref12_Best.j1
      repeat' first
      | (with_reducible exact ih0 _ _ _ _ _)
      | (with_reducible exact ih1 _ _ _ _ _ _ _ _ _ _ _)
      | (with_reducible exact ih2 _ _ _ _ _ _ _ _ _ _ _ _)
      | (with_reducible exact ih3 _ _ _ _ _ _)
      | (with_reducible exact LeO.refl _)
      | (with_reducible exact LeO.none _)
      | (with_reducible refine LeO.ite ?_ ?_)
      | (with_reducible refine LeO.bind ?_ (fun _ => ?_))
      | exact ih0 _ _ _ _ _
      | exact ih1 _ _ _ _ _ _ _ _ _ _ _
      | exact ih2 _ _ _ _ _ _ _ _ _ _ _ _
      | exact ih3 _ _ _ _ _ _
      | exact LeO.none _
      | refine LeO.ite ?_ ?_
      | refine LeO.bind ?_ (fun _ => ?_)
    · intro y0 y1 y2 y3 y4 y5 y6 y7 y8 y9 y10 y11
      unfold flotillaref12_Best.l1
      repeat' first
      | (with_reducible exact ih0 _ _ _ _ _)
      | (with_reducible exact ih1 _ _ _ _ _ _ _ _ _ _ _)
      | (with_reducible exact ih2 _ _ _ _ _ _ _ _ _ _ _ _)
      | (with_reducible exact ih3 _ _ _ _ _ _)
      | (with_reducible exact LeO.refl _)
      | (with_reducible exact LeO.none _)
      | (with_reducible refine LeO.ite ?_ ?_)
      | (with_reducible refine LeO.bind ?_ (fun _ => ?_))
      | exact ih0 _ _ _ _ _
      | exact ih1 _ _ _ _ _ _ _ _ _ _ _
      | exact ih2 _ _ _ _ _ _ _ _ _ _ _ _
      | exact ih3 _ _ _ _ _ _
      | exact LeO.none _
      | refine LeO.ite ?_ ?_
      | refine LeO.bind ?_ (fun _ => ?_)
    · intro y0 y1 y2 y3 y4 y5
      unfold flotillaref12_Best.l2
      repeat' first
      | (with_reducible exact ih0 _ _ _ _ _)
      | (with_reducible exact ih1 _ _ _ _ _ _ _ _ _ _ _)
      | (with_reducible exact ih2 _ _ _ _ _ _ _ _ _ _ _ _)
      | (with_reducible exact ih3 _ _ _ _ _ _)
      | (with_reducible exact LeO.refl _)
      | (with_reducible exact LeO.none _)
      | (with_reducible refine LeO.ite ?_ ?_)
      | (with_reducible refine LeO.bind ?_ (fun _ => ?_))
      | exact ih0 _ _ _ _ _
      | exact ih1 _ _ _ _ _ _ _ _ _ _ _
      | exact ih2 _ _ _ _ _ _ _ _ _ _ _ _
      | exact ih3 _ _ _ _ _ _
      | exact LeO.none _
      | refine LeO.ite ?_ ?_
      | refine LeO.bind ?_ (fun _ => ?_)
theorem flotillaref12_Best.mono : ∀ a0 a1 k, LeO (flotillaref12_Best.f k a0 a1) (flotillaref12_Best.f (k + 1) a0 a1) := by
  intro a0 a1 k
  obtain ⟨ih0, ih1, ih2, ih3⟩ := flotillaref12_Best.mono_l k
  unfold flotillaref12_Best.f
  repeat' first
      | (with_reducible exact ih0 _ _ _ _ _)
      | (with_reducible exact ih1 _ _ _ _ _ _ _ _ _ _ _)
      | (with_reducible exact ih2 _ _ _ _ _ _ _ _ _ _ _ _)
      | (with_reducible exact ih3 _ _ _ _ _ _)
      | (with_reducible exact LeO.refl _)
      | (with_reducible exact LeO.none _)
      | (with_reducible refine LeO.ite ?_ ?_)
      | (with_reducible refine LeO.bind ?_ (fun _ => ?_))
      | exact ih0 _ _ _ _ _
      | exact ih1 _ _ _ _ _ _ _ _ _ _ _
      | exact ih2 _ _ _ _ _ _ _ _ _ _ _ _
      | exact ih3 _ _ _ _ _ _
      | exact LeO.none _
      | refine LeO.ite ?_ ?_
      | refine LeO.bind ?_ (fun _ => ?_)
set_option maxHeartbeats 8000000 in
set_option maxRecDepth 100000 in
theorem flotillaref12_Best.calls (k : Nat) (a0 : Int) (A1 : Option Addr) (c1 : Nat) (l1 : List (S26)) (r1 : Int) (r2 : Int) (r3 : Int) (w : World) (hr1 : Kd.C k26 w A1 l1.length l1) (hc1 : l1.length ≤ c1) (h : flotillaref12_Best.f k a0 l1 = some (r1, r2, r3)) :
    Calls Try.prog 45 #[.int .i64 a0, .slice A1 l1.length c1] w fun e w' => e = .returned (.tuple #[.int .i64 r1, .int .i64 r2, .int .i64 r3]) ∧ Below w.heap.size w w' := by
  have hu26 := Try.underlying26
  have HR1 := Aside0.mk hr1
  have HC1 := Aside0.mk hc1
  clear hr1 hc1
  have HB := Aside0.mk (Below.refl w.heap.size w)
  have H : ((flotillaref12_sized.f a0 (l1.length : Int)).bind fun t108 => (if t108 = true then (flotillaref12_Best.l0 k a0 l1 l1 (l1.length : Int) 0) else (some (0, 0, 120)))) = some (r1, r2, r3) := h
  clear h
  replace H := Option.bind_eq_some_iff.mp H
  obtain ⟨t108, A30, H⟩ := H
  replace H : (if t108 = true then (flotillaref12_Best.l0 k a0 l1 l1 (l1.length : Int) 0) else (some (0, 0, 120))) = some (r1, r2, r3) := H
  have A3 := Aside0.mk A30
  clear A30
  by_cases c4 : t108 = true
  · subst c4
    have H1 : (flotillaref12_Best.l0 k a0 l1 l1 (l1.length : Int) 0) = some (r1, r2, r3) := by rw [if_pos rfl] at H; exact H
    clear H
    have H := H1
    clear H1
    have H' := Aside0.mk H
    clear H
    go_enter Try.func45, Try.ntmps45
    go_wp2_with (first | ((with_reducible refine gate_callee (f := 72) rfl ?_); refine goesL_ (some 18) rfl rfl Try.func72 (by kernel_rfl) rfl #[.int .i64 a0, .int .i64 (l1.length : Int)] rfl (by (try simp only [List.map_toArray, List.map_cons, List.map_nil]); first | done | rfl | (simp only [List.length_drop, List.length_take]; rfl)) ?_; (with_reducible refine (flotillaref12_sized.calls a0 (l1.length : Int) true _ A3.out).mono ?_); rintro e w' ⟨rfl, ⟨nd, rfl⟩⟩; refine ⟨_, rfl, ?_⟩))
    go_loopg [22] k (fun kq v22 w' => ∃ (x22_1 : Int), v22 = .int .i64 x22_1 ∧ Aside0 (flotillaref12_Best.l0 kq a0 l1 l1 (l1.length : Int) x22_1 = some (r1, r2, r3)) ∧ Aside0 (kq ≤ k) ∧ Aside0 (Below w.heap.size w w'))
    case atStart => exact ⟨(0), (by first | rfl | (simp; done) | (simp [*]; done)), H', ⟨Nat.le_refl _⟩, ⟨by repeat (first | (with_reducible first | exact HB.out | apply below_alloc | apply pw_below_drewN | apply below_drew1) | exact HB.out)⟩⟩
    case round =>
      clear H'
      try clear c1
      try clear p2
      try clear c4
      obtain ⟨x22_1, rfl, HA, HK1, HB⟩ := hrel
      cases gk with
      | zero => exact absurd HA.out (by simp [flotillaref12_Best.l0])
      | succ k1 =>
        have H := HA.out
        clear HA
        simp only [flotillaref12_Best.l0] at H
        by_cases c5 : x22_1 < (l1.length : Int)
        · rw [if_pos c5] at H
          have c5b0 : decide (x22_1 < (l1.length : Int)) = true := decide_eq_true c5
          clear c5
          by_cases c6 : 0 ≤ x22_1
          · rw [if_pos c6] at H
            have c6b0 : decide (0 ≤ x22_1) = true := decide_eq_true c6
            clear c6
            by_cases c7 : x22_1 < (l1.length : Int)
            · rw [if_pos c7] at H
              have c7b0 : decide (x22_1 < (l1.length : Int)) = true := decide_eq_true c7
              clear c7
              have HC8 := Aside0.mk H
              clear H
              have p109 : 0 ≤ (x22_1 : Int) := of_decide_eq_true (by first | (with_reducible assumption) | assumption)
              have q109 : x22_1 < (l1.length : Int) := of_decide_eq_true (by first | (with_reducible assumption) | assumption)
              obtain ⟨ad109, e109, hx109_0, hx109_1, hx109_2, hx109_3⟩ := at_T26 HR1.out x22_1 p109 q109
              cases e109
              replace hx109_0 := (HB.out.cell (World.block_lt_of_cell? w _ hx109_0)).trans hx109_0
              replace hx109_1 := (HB.out.cell (World.block_lt_of_cell? w _ hx109_1)).trans hx109_1
              replace hx109_2 := (HB.out.cell (World.block_lt_of_cell? w _ hx109_2)).trans hx109_2
              replace hx109_3 := (HB.out.cell (World.block_lt_of_cell? w _ hx109_3)).trans hx109_3
              replace p109 := eq_true p109
              replace q109 := eq_true q109
              go_upto_region 6 with (first | ((with_reducible refine gate_dst (N := 8) rfl ?_); refine box_event ?hg (N := 8) ?hd (cs := #[.int .i64 0, .int .i64 0, .int .i64 0, .int .i64 0]) (t := 26) ?hr ?_; (case hd => rfl); (case hg => rfl); (case hr => first | (go_simp; done) | (go_simp; rfl)); intro gb110 hg w9 hbox hb; have n0_ := Aside0.mk (below_step (by repeat (first | (with_reducible first | exact HB.out | apply below_alloc | apply pw_below_drewN | apply below_drew1) | exact HB.out)) hb); have n1_ := Aside0.mk (hbox); have n2_ := Aside0.mk ((by rw [hg]; exact (below_size (by repeat (first | (with_reducible first | exact HB.out | apply below_alloc | apply pw_below_drewN | apply below_drew1) | exact HB.out))) : w.heap.size ≤ gb110)); have n3_ := Aside0.mk ((by rw [hg]; exact (below_size (by repeat (first | (with_reducible first | exact HB.out | apply below_alloc | apply pw_below_drewN | apply below_drew1) | exact HB.out))) : w.heap.size ≤ gb110)); clear HB; have HB := n0_; have BK110 := n1_; have GW110 := n2_; have GE110 := n3_; clear n0_ n1_ n2_ n3_; clear hb hbox hg; have hcz10_0 : w9.cell? ⟨gb110, 0, none⟩ = some (.int .i64 0) := (blk_cell BK110.out 0).trans rfl; have hcz10_1 : w9.cell? ⟨gb110, 1, none⟩ = some (.int .i64 0) := (blk_cell BK110.out 1).trans rfl; have hcz10_2 : w9.cell? ⟨gb110, 2, none⟩ = some (.int .i64 0) := (blk_cell BK110.out 2).trans rfl; have hcz10_3 : w9.cell? ⟨gb110, 3, none⟩ = some (.int .i64 0) := (blk_cell BK110.out 3).trans rfl; have hfz10_0 := blk_frozen BK110.out 0; have hfz10_1 := blk_frozen BK110.out 1; have hfz10_2 := blk_frozen BK110.out 2; have hfz10_3 := blk_frozen BK110.out 3))
              (try simp only [Act.put, List.setIfInBounds_toArray, List.set_cons_zero, List.set_cons_succ])
              go_cut [35] (fun v35 wc => ∃ (kq : Nat) (x35_7 : Bool), v35 = .bool x35_7 ∧ Aside0 (flotillaref12_Best.j1 kq a0 l1 x22_1 l1 (l1.length : Int) x22_1 x35_7 ((rd_T26 l1 x22_1).f0) ((rd_T26 l1 x22_1).f1) ((rd_T26 l1 x22_1).f2) ((rd_T26 l1 x22_1).f3) = some (r1, r2, r3)) ∧ Aside0 (kq ≤ k1) ∧ Aside0 (wc.heap[gb110]? = some (.cells #[.int .i64 ((rd_T26 l1 x22_1).f0), .int .i64 ((rd_T26 l1 x22_1).f1), .int .i64 ((rd_T26 l1 x22_1).f2), .int .i64 ((rd_T26 l1 x22_1).f3)] 26 (0, 0))) ∧ Aside0 (Below w.heap.size w wc))
              case first =>
                have H := HC8.out
                clear HC8
                by_cases c11 : ((rd_T26 l1 x22_1).f0) < 0
                · rw [if_pos c11] at H
                  have c11b0 : decide (((rd_T26 l1 x22_1).f0) < 0) = true := decide_eq_true c11
                  clear c11
                  (first | rw [c11b0] | (simp only [i64_w, i32_w]; rw [c11b0]) | skip)
                  have H' := Aside0.mk H
                  clear H
                  have hcz12_0 : w9.cell? ⟨gb110, 0, none⟩ = some (.int .i64 0) := (blk_cell BK110.out 0).trans rfl
                  have hcz12_1 : w9.cell? ⟨gb110, 1, none⟩ = some (.int .i64 0) := (blk_cell BK110.out 1).trans rfl
                  have hcz12_2 : w9.cell? ⟨gb110, 2, none⟩ = some (.int .i64 0) := (blk_cell BK110.out 2).trans rfl
                  have hcz12_3 : w9.cell? ⟨gb110, 3, none⟩ = some (.int .i64 0) := (blk_cell BK110.out 3).trans rfl
                  have hfz12_0 := blk_frozen BK110.out 0
                  have hfz12_1 := blk_frozen BK110.out 1
                  have hfz12_2 := blk_frozen BK110.out 2
                  have hfz12_3 := blk_frozen BK110.out 3
                  go_wp2
                  go_meet
                  case rel => exact ⟨_, (true), (by first | rfl | (simp; done) | (simp [*]; done)), H', ⟨by have := HK1.out; first | omega | exact Nat.le_refl _⟩, ⟨by (with_reducible repeat (first | refine blk_drewN ?_ _ | refine blk_drew ?_ | refine blk_alloc ?_ _)); refine blk_put (cs := #[.int .i64 ((rd_T26 l1 x22_1).f0), .int .i64 ((rd_T26 l1 x22_1).f1), .int .i64 ((rd_T26 l1 x22_1).f2), .int .i64 0]) ?_ 3 _ rfl; (with_reducible repeat (first | refine blk_drewN ?_ _ | refine blk_drew ?_ | refine blk_alloc ?_ _)); refine blk_put (cs := #[.int .i64 ((rd_T26 l1 x22_1).f0), .int .i64 ((rd_T26 l1 x22_1).f1), .int .i64 0, .int .i64 0]) ?_ 2 _ rfl; (with_reducible repeat (first | refine blk_drewN ?_ _ | refine blk_drew ?_ | refine blk_alloc ?_ _)); refine blk_put (cs := #[.int .i64 ((rd_T26 l1 x22_1).f0), .int .i64 0, .int .i64 0, .int .i64 0]) ?_ 1 _ rfl; (with_reducible repeat (first | refine blk_drewN ?_ _ | refine blk_drew ?_ | refine blk_alloc ?_ _)); refine blk_put (cs := #[.int .i64 0, .int .i64 0, .int .i64 0, .int .i64 0]) ?_ 0 _ rfl; (with_reducible repeat (first | refine blk_drewN ?_ _ | refine blk_drew ?_ | refine blk_alloc ?_ _)); exact BK110.out⟩, ⟨by repeat (first | (with_reducible first | exact HB.out | apply below_alloc | apply pw_below_drewN | apply below_drew1 | refine below_set ?_ GE110.out) | exact HB.out)⟩⟩
                · rw [if_neg c11] at H
                  have c11b0 : decide (((rd_T26 l1 x22_1).f0) < 0) = false := decide_eq_false c11
                  clear c11
                  (first | rw [c11b0] | (simp only [i64_w, i32_w]; rw [c11b0]) | skip)
                  have H' := Aside0.mk H
                  clear H
                  have hcz13_0 : w9.cell? ⟨gb110, 0, none⟩ = some (.int .i64 0) := (blk_cell BK110.out 0).trans rfl
                  have hcz13_1 : w9.cell? ⟨gb110, 1, none⟩ = some (.int .i64 0) := (blk_cell BK110.out 1).trans rfl
                  have hcz13_2 : w9.cell? ⟨gb110, 2, none⟩ = some (.int .i64 0) := (blk_cell BK110.out 2).trans rfl
                  have hcz13_3 : w9.cell? ⟨gb110, 3, none⟩ = some (.int .i64 0) := (blk_cell BK110.out 3).trans rfl
                  have hfz13_0 := blk_frozen BK110.out 0
                  have hfz13_1 := blk_frozen BK110.out 1
                  have hfz13_2 := blk_frozen BK110.out 2
                  have hfz13_3 := blk_frozen BK110.out 3
                  go_wp2
                  go_meet
                  case rel => exact ⟨_, (decide (((rd_T26 l1 x22_1).f0) ≥ a0)), (by first | rfl | (simp; done) | (simp [*]; done)), H', ⟨by have := HK1.out; first | omega | exact Nat.le_refl _⟩, ⟨by (with_reducible repeat (first | refine blk_drewN ?_ _ | refine blk_drew ?_ | refine blk_alloc ?_ _)); refine blk_put (cs := #[.int .i64 ((rd_T26 l1 x22_1).f0), .int .i64 ((rd_T26 l1 x22_1).f1), .int .i64 ((rd_T26 l1 x22_1).f2), .int .i64 0]) ?_ 3 _ rfl; (with_reducible repeat (first | refine blk_drewN ?_ _ | refine blk_drew ?_ | refine blk_alloc ?_ _)); refine blk_put (cs := #[.int .i64 ((rd_T26 l1 x22_1).f0), .int .i64 ((rd_T26 l1 x22_1).f1), .int .i64 0, .int .i64 0]) ?_ 2 _ rfl; (with_reducible repeat (first | refine blk_drewN ?_ _ | refine blk_drew ?_ | refine blk_alloc ?_ _)); refine blk_put (cs := #[.int .i64 ((rd_T26 l1 x22_1).f0), .int .i64 0, .int .i64 0, .int .i64 0]) ?_ 1 _ rfl; (with_reducible repeat (first | refine blk_drewN ?_ _ | refine blk_drew ?_ | refine blk_alloc ?_ _)); refine blk_put (cs := #[.int .i64 0, .int .i64 0, .int .i64 0, .int .i64 0]) ?_ 0 _ rfl; (with_reducible repeat (first | refine blk_drewN ?_ _ | refine blk_drew ?_ | refine blk_alloc ?_ _)); exact BK110.out⟩, ⟨by repeat (first | (with_reducible first | exact HB.out | apply below_alloc | apply pw_below_drewN | apply below_drew1 | refine below_set ?_ GE110.out) | exact HB.out)⟩⟩
              case rest =>
                clear HC8
                try clear c1
                try clear p1
                try clear q1
                try clear hx1
                try clear p2
                try clear c4
                try clear c5
                try clear c5b0
                try clear c6
                try clear c6b0
                try clear c7
                try clear c7b0
                try clear p10
                try clear q10
                try clear hx10
                try clear c11
                try clear c11b0
                try clear hcz10_0
                try clear hcz10_1
                try clear hcz10_2
                try clear hcz10_3
                try clear hcz12_0
                try clear hcz12_1
                try clear hcz12_2
                try clear hcz12_3
                try clear hcz13_0
                try clear hcz13_1
                try clear hcz13_2
                try clear hcz13_3
                try clear hfz10_0
                try clear hfz10_1
                try clear hfz10_2
                try clear hfz10_3
                try clear hfz12_0
                try clear hfz12_1
                try clear hfz12_2
                try clear hfz12_3
                try clear hfz13_0
                try clear hfz13_1
                try clear hfz13_2
                try clear hfz13_3
                try clear hx109_0
                try clear hx109_1
                try clear hx109_2
                try clear hx109_3
                try clear p109
                try clear p2
                try clear q109
                obtain ⟨kq, x35_7, rfl, HA, HJ7, BK110, HB⟩ := hcut
                cases kq with
                | zero => exact absurd HA.out (by simp [flotillaref12_Best.j1])
                | succ kj7 =>
                  have H := HA.out
                  clear HA
                  simp only [flotillaref12_Best.j1] at H
                  by_cases c14 : x35_7 = true
                  · subst c14
                    have H1 : (some (0, 0, 121)) = some (r1, r2, r3) := by rw [if_pos rfl] at H; exact H
                    clear H
                    have H := H1
                    clear H1
                    simp only [Option.some.injEq, Prod.mk.injEq] at H
                    obtain ⟨rfl, rfl, rfl⟩ := H
                    go_wp2
                    go_ret3
                    exact ⟨by first | rfl | (simp [errW_none, errW_some] <;> rfl) | (simp [*, errW_none, errW_some] <;> rfl), by repeat (first | (with_reducible first | exact HB.out | apply below_alloc | apply pw_below_drewN | apply below_drew1 | refine below_set ?_ GE110.out) | exact HB.out)⟩
                  · replace c14 := Bool.eq_false_iff.mpr c14
                    subst c14
                    have H1 : (if 0 ≤ x22_1 then (if x22_1 ≤ (l1.length : Int) then ((some (l1.take (x22_1 : Int).toNat : List (S26))).bind fun y111 => (flotillaref12_Best.l1 kj7 a0 l1 l1 (l1.length : Int) x22_1 y111 (y111.length : Int) 0 ((rd_T26 l1 x22_1).f0) ((rd_T26 l1 x22_1).f1) ((rd_T26 l1 x22_1).f2) ((rd_T26 l1 x22_1).f3))) else (none)) else (none)) = some (r1, r2, r3) := by rw [if_neg (show ¬ (false = true) by decide)] at H; exact H
                    clear H
                    have H := H1
                    clear H1
                    by_cases c15 : 0 ≤ x22_1
                    · rw [if_pos c15] at H
                      have c15b0 := eq_true c15
                      have c15b1 : decide (0 ≤ x22_1) = true := decide_eq_true c15
                      clear c15
                      by_cases c16 : x22_1 ≤ (l1.length : Int)
                      · rw [if_pos c16] at H
                        have c16b0 := eq_true c16
                        have c16b1 : decide (x22_1 ≤ (l1.length : Int)) = true := decide_eq_true c16
                        clear c16
                        obtain ⟨y111, hy111⟩ : ∃ y_ : List (S26), y_ = (l1.take (x22_1 : Int).toNat) := ⟨_, rfl⟩
                        replace H : (flotillaref12_Best.l1 kj7 a0 l1 l1 (l1.length : Int) x22_1 y111 (y111.length : Int) 0 ((rd_T26 l1 x22_1).f0) ((rd_T26 l1 x22_1).f1) ((rd_T26 l1 x22_1).f2) ((rd_T26 l1 x22_1).f3)) = some (r1, r2, r3) := by first | (rw [hy111]; with_reducible exact H) | (have H2_ := (Option.bind_some _ _).symm.trans H; rw [hy111]; with_reducible exact H2_) | (have H2_ := (Option.bind_some _ _).symm.trans H; with_reducible exact H2_) | with_reducible exact H | (rw [hy111]; exact H) | exact H
                        have Ny111 := Aside0.mk hy111
                        clear hy111
                        have H' := Aside0.mk H
                        clear H
                        have q17 : (x22_1 : Int) ≤ ((l1.length : Int) : Int) := of_decide_eq_true (by first | (with_reducible assumption) | assumption)
                        obtain ⟨i017, hi017, _, hsz17, _⟩ := info_parts info26
                        have hroom17 : l1.length ≤ c1 := HC1.out
                        have hC17 : Kd.C k26 _ (some ad109) l1.length l1 := HR1.out
                        have hcut17 := cut_to (P := Try.prog) 22 26 .i64 Try.underlying22 hi017 (some ad109) l1.length c1 x22_1 (of_decide_eq_true (by first | (with_reducible assumption) | assumption)) q17 hroom17
                        have hr17 := Kd.C_take (m := (x22_1 : Int).toNat) hC17 (by omega)
                        have hy17 : y111.length = (x22_1 : Int).toNat := (by rw [Ny111.out, List.length_take]; omega)
                        rw [← Ny111.out] at hr17
                        rw [← hy17] at hcut17
                        have HR114 := Aside0.mk hr17
                        have HC114 := Aside0.mk (show y111.length ≤ c1 from by omega)
                        clear hr17 hC17 hroom17 hi017 hsz17
                        have KY17 := Aside0.mk hy17
                        clear hy17
                        replace q17 := eq_true q17
                        go_wp2
                        go_loopg [40] kj7 (fun kq v40 w' => ∃ (x40_3 : Int), v40 = .int .i64 x40_3 ∧ Aside0 (flotillaref12_Best.l1 kq a0 l1 l1 (l1.length : Int) x22_1 y111 (y111.length : Int) x40_3 ((rd_T26 l1 x22_1).f0) ((rd_T26 l1 x22_1).f1) ((rd_T26 l1 x22_1).f2) ((rd_T26 l1 x22_1).f3) = some (r1, r2, r3)) ∧ Aside0 (kq ≤ kj7) ∧ Aside0 (w'.heap[gb110]? = some (.cells #[.int .i64 ((rd_T26 l1 x22_1).f0), .int .i64 ((rd_T26 l1 x22_1).f1), .int .i64 ((rd_T26 l1 x22_1).f2), .int .i64 ((rd_T26 l1 x22_1).f3)] 26 (0, 0))) ∧ Aside0 (Below w.heap.size w w'))
                        case atStart => exact ⟨(0), (by first | rfl | (simp; done) | (simp [*]; done)), H', ⟨Nat.le_refl _⟩, ⟨by (with_reducible repeat (first | refine blk_drewN ?_ _ | refine blk_drew ?_ | refine blk_alloc ?_ _)); exact BK110.out⟩, ⟨by repeat (first | (with_reducible first | exact HB.out | apply below_alloc | apply pw_below_drewN | apply below_drew1 | refine below_set ?_ GE110.out) | exact HB.out)⟩⟩
                        case round =>
                          clear H'
                          try clear c1
                          try clear p1
                          try clear q1
                          try clear hx1
                          try clear p2
                          try clear c4
                          try clear c5
                          try clear c5b0
                          try clear c6
                          try clear c6b0
                          try clear c7
                          try clear c7b0
                          try clear p10
                          try clear q10
                          try clear hx10
                          try clear c11
                          try clear c11b0
                          try clear c14
                          try clear c15
                          try clear c15b0
                          try clear c15b1
                          try clear c16
                          try clear c16b0
                          try clear c16b1
                          try clear q17
                          try clear hcz10_0
                          try clear hcz10_1
                          try clear hcz10_2
                          try clear hcz10_3
                          try clear hcz12_0
                          try clear hcz12_1
                          try clear hcz12_2
                          try clear hcz12_3
                          try clear hcz13_0
                          try clear hcz13_1
                          try clear hcz13_2
                          try clear hcz13_3
                          try clear hfz10_0
                          try clear hfz10_1
                          try clear hfz10_2
                          try clear hfz10_3
                          try clear hfz12_0
                          try clear hfz12_1
                          try clear hfz12_2
                          try clear hfz12_3
                          try clear hfz13_0
                          try clear hfz13_1
                          try clear hfz13_2
                          try clear hfz13_3
                          try clear hx109_0
                          try clear hx109_1
                          try clear hx109_2
                          try clear hx109_3
                          try clear p1
                          try clear p10
                          try clear p109
                          try clear p2
                          try clear q1
                          try clear q10
                          try clear q109
                          try clear q17
                          obtain ⟨x40_3, rfl, HA, HK3, BK110, HB⟩ := hrel
                          cases gk with
                          | zero => exact absurd HA.out (by simp [flotillaref12_Best.l1])
                          | succ k3 =>
                            have H := HA.out
                            clear HA
                            simp only [flotillaref12_Best.l1] at H
                            by_cases c18 : x40_3 < (y111.length : Int)
                            · rw [if_pos c18] at H
                              have c18b0 : decide (x40_3 < (y111.length : Int)) = true := decide_eq_true c18
                              clear c18
                              by_cases c19 : 0 ≤ x40_3
                              · rw [if_pos c19] at H
                                have c19b0 : decide (0 ≤ x40_3) = true := decide_eq_true c19
                                clear c19
                                by_cases c20 : x40_3 < (y111.length : Int)
                                · rw [if_pos c20] at H
                                  have c20b0 : decide (x40_3 < (y111.length : Int)) = true := decide_eq_true c20
                                  clear c20
                                  by_cases c21 : ((rd_T26 y111 x40_3).f0) = ((rd_T26 l1 x22_1).f0)
                                  · rw [if_pos c21] at H
                                    have c21b0 : (((rd_T26 y111 x40_3).f0) == ((rd_T26 l1 x22_1).f0)) = true := beq_iff_eq.mpr c21
                                    have c21b1 : (((rd_T26 y111 x40_3).f0) != ((rd_T26 l1 x22_1).f0)) = false := bne_eq_false_iff_eq.mpr c21
                                    clear c21
                                    simp only [Option.some.injEq, Prod.mk.injEq] at H
                                    obtain ⟨rfl, rfl, rfl⟩ := H
                                    have p115 : 0 ≤ (x40_3 : Int) := of_decide_eq_true (by first | (with_reducible assumption) | assumption)
                                    have q115 : x40_3 < (y111.length : Int) := of_decide_eq_true (by first | (with_reducible assumption) | assumption)
                                    obtain ⟨ad115, e115, hx115_0, hx115_1, hx115_2, hx115_3⟩ := at_T26 HR114.out x40_3 p115 q115
                                    obtain rfl : ad109 = ad115 := (by injection e115)
                                    replace hx115_0 := (HB.out.cell (World.block_lt_of_cell? w _ hx115_0)).trans hx115_0
                                    replace hx115_1 := (HB.out.cell (World.block_lt_of_cell? w _ hx115_1)).trans hx115_1
                                    replace hx115_2 := (HB.out.cell (World.block_lt_of_cell? w _ hx115_2)).trans hx115_2
                                    replace hx115_3 := (HB.out.cell (World.block_lt_of_cell? w _ hx115_3)).trans hx115_3
                                    replace p115 := eq_true p115
                                    replace q115 := eq_true q115
                                    go_wp2_with (first | ((with_reducible refine gate_dst (N := 10) rfl ?_); refine box_event ?hg (N := 10) ?hd (cs := #[.int .i64 0, .int .i64 0, .int .i64 0, .int .i64 0]) (t := 26) ?hr ?_; (case hd => rfl); (case hg => rfl); (case hr => first | (go_simp; done) | (go_simp; rfl)); intro gb116 hg w22 hbox hb; have n0_ := Aside0.mk (blk_below (g := gb110) (o := .cells #[.int .i64 ((rd_T26 l1 x22_1).f0), .int .i64 ((rd_T26 l1 x22_1).f1), .int .i64 ((rd_T26 l1 x22_1).f2), .int .i64 ((rd_T26 l1 x22_1).f3)] 26 (0, 0)) (by (with_reducible repeat (first | refine blk_drewN ?_ _ | refine blk_drew ?_ | refine blk_alloc ?_ _)); exact BK110.out) hb); have n1_ := Aside0.mk (below_step (by repeat (first | (with_reducible first | exact HB.out | apply below_alloc | apply pw_below_drewN | apply below_drew1 | refine below_set ?_ GE110.out) | exact HB.out)) hb); have n2_ := Aside0.mk (hbox); have n3_ := Aside0.mk ((by rw [hg]; exact (below_size (by repeat (first | (with_reducible first | exact HB.out | apply below_alloc | apply pw_below_drewN | apply below_drew1 | refine below_set ?_ GE110.out) | exact HB.out))) : w.heap.size ≤ gb116)); have n4_ := Aside0.mk ((by rw [hg]; exact (below_size (by repeat (first | (with_reducible first | exact HB.out | apply below_alloc | apply pw_below_drewN | apply below_drew1 | refine below_set ?_ GE110.out) | exact HB.out))) : w.heap.size ≤ gb116)); have n5_ := Aside0.mk ((by rw [hg]; exact Nat.ne_of_lt (blk_lt (g := gb110) (o := .cells #[.int .i64 ((rd_T26 l1 x22_1).f0), .int .i64 ((rd_T26 l1 x22_1).f1), .int .i64 ((rd_T26 l1 x22_1).f2), .int .i64 ((rd_T26 l1 x22_1).f3)] 26 (0, 0)) (by (with_reducible repeat (first | refine blk_drewN ?_ _ | refine blk_drew ?_ | refine blk_alloc ?_ _)); exact BK110.out)) : gb110 ≠ gb116)); have n6_ := Aside0.mk ((by rw [hg]; exact Nat.ne_of_gt (blk_lt (g := gb110) (o := .cells #[.int .i64 ((rd_T26 l1 x22_1).f0), .int .i64 ((rd_T26 l1 x22_1).f1), .int .i64 ((rd_T26 l1 x22_1).f2), .int .i64 ((rd_T26 l1 x22_1).f3)] 26 (0, 0)) (by (with_reducible repeat (first | refine blk_drewN ?_ _ | refine blk_drew ?_ | refine blk_alloc ?_ _)); exact BK110.out)) : gb116 ≠ gb110)); clear BK110; clear HB; have BK110 := n0_; have HB := n1_; have BK116 := n2_; have GW116 := n3_; have GE116 := n4_; have NB110_116 := n5_; have NB116_110 := n6_; clear n0_ n1_ n2_ n3_ n4_ n5_ n6_; clear hb hbox hg; have hnb23 := NB116_110.out; have hnc23 := NB110_116.out; have hcz24_0 : w22.cell? ⟨gb116, 0, none⟩ = some (.int .i64 0) := (blk_cell BK116.out 0).trans rfl; have hcz24_1 : w22.cell? ⟨gb116, 1, none⟩ = some (.int .i64 0) := (blk_cell BK116.out 1).trans rfl; have hcz24_2 : w22.cell? ⟨gb116, 2, none⟩ = some (.int .i64 0) := (blk_cell BK116.out 2).trans rfl; have hcz24_3 : w22.cell? ⟨gb116, 3, none⟩ = some (.int .i64 0) := (blk_cell BK116.out 3).trans rfl; have hfz24_0 := blk_frozen BK116.out 0; have hfz24_1 := blk_frozen BK116.out 1; have hfz24_2 := blk_frozen BK116.out 2; have hfz24_3 := blk_frozen BK116.out 3; have hcz25_0 : w22.cell? ⟨gb110, 0, none⟩ = some (.int .i64 ((rd_T26 l1 x22_1).f0)) := (blk_cell BK110.out 0).trans rfl; have hcz25_1 : w22.cell? ⟨gb110, 1, none⟩ = some (.int .i64 ((rd_T26 l1 x22_1).f1)) := (blk_cell BK110.out 1).trans rfl; have hcz25_2 : w22.cell? ⟨gb110, 2, none⟩ = some (.int .i64 ((rd_T26 l1 x22_1).f2)) := (blk_cell BK110.out 2).trans rfl; have hcz25_3 : w22.cell? ⟨gb110, 3, none⟩ = some (.int .i64 ((rd_T26 l1 x22_1).f3)) := (blk_cell BK110.out 3).trans rfl; have hfz25_0 := blk_frozen BK110.out 0; have hfz25_1 := blk_frozen BK110.out 1; have hfz25_2 := blk_frozen BK110.out 2; have hfz25_3 := blk_frozen BK110.out 3))
                                    go_ret3
                                    exact ⟨by first | rfl | (simp [errW_none, errW_some] <;> rfl) | (simp [*, errW_none, errW_some] <;> rfl), by repeat (first | (with_reducible first | exact HB.out | apply below_alloc | apply pw_below_drewN | apply below_drew1 | refine below_set ?_ GE110.out | refine below_set ?_ GE116.out) | exact HB.out)⟩
                                  · rw [if_neg c21] at H
                                    have c21b0 : (((rd_T26 y111 x40_3).f0) == ((rd_T26 l1 x22_1).f0)) = false := beq_eq_false_iff_ne.mpr c21
                                    have c21b1 : (((rd_T26 y111 x40_3).f0) != ((rd_T26 l1 x22_1).f0)) = true := bne_iff_ne.mpr c21
                                    have H' := Aside0.mk H
                                    clear H
                                    have p115 : 0 ≤ (x40_3 : Int) := of_decide_eq_true (by first | (with_reducible assumption) | assumption)
                                    have q115 : x40_3 < (y111.length : Int) := of_decide_eq_true (by first | (with_reducible assumption) | assumption)
                                    obtain ⟨ad115, e115, hx115_0, hx115_1, hx115_2, hx115_3⟩ := at_T26 HR114.out x40_3 p115 q115
                                    obtain rfl : ad109 = ad115 := (by injection e115)
                                    replace hx115_0 := (HB.out.cell (World.block_lt_of_cell? w _ hx115_0)).trans hx115_0
                                    replace hx115_1 := (HB.out.cell (World.block_lt_of_cell? w _ hx115_1)).trans hx115_1
                                    replace hx115_2 := (HB.out.cell (World.block_lt_of_cell? w _ hx115_2)).trans hx115_2
                                    replace hx115_3 := (HB.out.cell (World.block_lt_of_cell? w _ hx115_3)).trans hx115_3
                                    replace p115 := eq_true p115
                                    replace q115 := eq_true q115
                                    go_wp2_with (first | ((with_reducible refine gate_dst (N := 10) rfl ?_); refine box_event ?hg (N := 10) ?hd (cs := #[.int .i64 0, .int .i64 0, .int .i64 0, .int .i64 0]) (t := 26) ?hr ?_; (case hd => rfl); (case hg => rfl); (case hr => first | (go_simp; done) | (go_simp; rfl)); intro gb116 hg w26 hbox hb; have n0_ := Aside0.mk (blk_below (g := gb110) (o := .cells #[.int .i64 ((rd_T26 l1 x22_1).f0), .int .i64 ((rd_T26 l1 x22_1).f1), .int .i64 ((rd_T26 l1 x22_1).f2), .int .i64 ((rd_T26 l1 x22_1).f3)] 26 (0, 0)) (by (with_reducible repeat (first | refine blk_drewN ?_ _ | refine blk_drew ?_ | refine blk_alloc ?_ _)); exact BK110.out) hb); have n1_ := Aside0.mk (below_step (by repeat (first | (with_reducible first | exact HB.out | apply below_alloc | apply pw_below_drewN | apply below_drew1 | refine below_set ?_ GE110.out) | exact HB.out)) hb); have n2_ := Aside0.mk (hbox); have n3_ := Aside0.mk ((by rw [hg]; exact (below_size (by repeat (first | (with_reducible first | exact HB.out | apply below_alloc | apply pw_below_drewN | apply below_drew1 | refine below_set ?_ GE110.out) | exact HB.out))) : w.heap.size ≤ gb116)); have n4_ := Aside0.mk ((by rw [hg]; exact (below_size (by repeat (first | (with_reducible first | exact HB.out | apply below_alloc | apply pw_below_drewN | apply below_drew1 | refine below_set ?_ GE110.out) | exact HB.out))) : w.heap.size ≤ gb116)); have n5_ := Aside0.mk ((by rw [hg]; exact Nat.ne_of_lt (blk_lt (g := gb110) (o := .cells #[.int .i64 ((rd_T26 l1 x22_1).f0), .int .i64 ((rd_T26 l1 x22_1).f1), .int .i64 ((rd_T26 l1 x22_1).f2), .int .i64 ((rd_T26 l1 x22_1).f3)] 26 (0, 0)) (by (with_reducible repeat (first | refine blk_drewN ?_ _ | refine blk_drew ?_ | refine blk_alloc ?_ _)); exact BK110.out)) : gb110 ≠ gb116)); have n6_ := Aside0.mk ((by rw [hg]; exact Nat.ne_of_gt (blk_lt (g := gb110) (o := .cells #[.int .i64 ((rd_T26 l1 x22_1).f0), .int .i64 ((rd_T26 l1 x22_1).f1), .int .i64 ((rd_T26 l1 x22_1).f2), .int .i64 ((rd_T26 l1 x22_1).f3)] 26 (0, 0)) (by (with_reducible repeat (first | refine blk_drewN ?_ _ | refine blk_drew ?_ | refine blk_alloc ?_ _)); exact BK110.out)) : gb116 ≠ gb110)); clear BK110; clear HB; have BK110 := n0_; have HB := n1_; have BK116 := n2_; have GW116 := n3_; have GE116 := n4_; have NB110_116 := n5_; have NB116_110 := n6_; clear n0_ n1_ n2_ n3_ n4_ n5_ n6_; clear hb hbox hg; have hnb27 := NB116_110.out; have hnc27 := NB110_116.out; have hcz28_0 : w26.cell? ⟨gb116, 0, none⟩ = some (.int .i64 0) := (blk_cell BK116.out 0).trans rfl; have hcz28_1 : w26.cell? ⟨gb116, 1, none⟩ = some (.int .i64 0) := (blk_cell BK116.out 1).trans rfl; have hcz28_2 : w26.cell? ⟨gb116, 2, none⟩ = some (.int .i64 0) := (blk_cell BK116.out 2).trans rfl; have hcz28_3 : w26.cell? ⟨gb116, 3, none⟩ = some (.int .i64 0) := (blk_cell BK116.out 3).trans rfl; have hfz28_0 := blk_frozen BK116.out 0; have hfz28_1 := blk_frozen BK116.out 1; have hfz28_2 := blk_frozen BK116.out 2; have hfz28_3 := blk_frozen BK116.out 3; have hcz29_0 : w26.cell? ⟨gb110, 0, none⟩ = some (.int .i64 ((rd_T26 l1 x22_1).f0)) := (blk_cell BK110.out 0).trans rfl; have hcz29_1 : w26.cell? ⟨gb110, 1, none⟩ = some (.int .i64 ((rd_T26 l1 x22_1).f1)) := (blk_cell BK110.out 1).trans rfl; have hcz29_2 : w26.cell? ⟨gb110, 2, none⟩ = some (.int .i64 ((rd_T26 l1 x22_1).f2)) := (blk_cell BK110.out 2).trans rfl; have hcz29_3 : w26.cell? ⟨gb110, 3, none⟩ = some (.int .i64 ((rd_T26 l1 x22_1).f3)) := (blk_cell BK110.out 3).trans rfl; have hfz29_0 := blk_frozen BK110.out 0; have hfz29_1 := blk_frozen BK110.out 1; have hfz29_2 := blk_frozen BK110.out 2; have hfz29_3 := blk_frozen BK110.out 3))
                                    go_roundg k3
                                    case measure => have := HK1.out; have := HJ7.out; have := HK3.out; omega
                                    case rel => exact ⟨(wrap64 (x40_3 + 1)), (by first | rfl | (simp; done) | (simp [*]; done)), H', ⟨by have := HK1.out; have := HJ7.out; have := HK3.out; omega⟩, ⟨by (with_reducible repeat (first | refine blk_drewN ?_ _ | refine blk_drew ?_ | refine blk_alloc ?_ _)); refine blk_far ?_ NB110_116.out _; (with_reducible repeat (first | refine blk_drewN ?_ _ | refine blk_drew ?_ | refine blk_alloc ?_ _)); refine blk_far ?_ NB110_116.out _; (with_reducible repeat (first | refine blk_drewN ?_ _ | refine blk_drew ?_ | refine blk_alloc ?_ _)); refine blk_far ?_ NB110_116.out _; (with_reducible repeat (first | refine blk_drewN ?_ _ | refine blk_drew ?_ | refine blk_alloc ?_ _)); refine blk_far ?_ NB110_116.out _; (with_reducible repeat (first | refine blk_drewN ?_ _ | refine blk_drew ?_ | refine blk_alloc ?_ _)); exact BK110.out⟩, ⟨by repeat (first | (with_reducible first | exact HB.out | apply below_alloc | apply pw_below_drewN | apply below_drew1 | refine below_set ?_ GE110.out | refine below_set ?_ GE116.out) | exact HB.out)⟩⟩
                                · rw [if_neg c20] at H
                                  exact absurd H (by simp)
                              · rw [if_neg c19] at H
                                exact absurd H (by simp)
                            · rw [if_neg c18] at H
                              have c18b0 : decide (x40_3 < (y111.length : Int)) = false := decide_eq_false c18
                              clear c18
                              have H' := Aside0.mk H
                              clear H
                              go_wp2
                              go_roundg k3
                              case measure => have := HK1.out; have := HJ7.out; have := HK3.out; omega
                              case rel => exact ⟨(wrap64 (x22_1 + 1)), (by first | rfl | (simp; done) | (simp [*]; done)), H', ⟨by have := HK1.out; have := HJ7.out; have := HK3.out; omega⟩, ⟨by repeat (first | (with_reducible first | exact HB.out | apply below_alloc | apply pw_below_drewN | apply below_drew1 | refine below_set ?_ GE110.out) | exact HB.out)⟩⟩
                      · rw [if_neg c16] at H
                        exact absurd H (by simp)
                    · rw [if_neg c15] at H
                      exact absurd H (by simp)
            · rw [if_neg c7] at H
              exact absurd H (by simp)
          · rw [if_neg c6] at H
            exact absurd H (by simp)
        · rw [if_neg c5] at H
          have c5b0 : decide (x22_1 < (l1.length : Int)) = false := decide_eq_false c5
          clear c5
          by_cases c30 : 0 < (l1.length : Int)
          · rw [if_pos c30] at H
            have c30b0 : decide (0 < (l1.length : Int)) = true := decide_eq_true c30
            have c30b1 : decide (0 < l1.length) = true := decide_eq_true (by omega)
            clear c30
            have H' := Aside0.mk H
            clear H
            try go_wp2
            have n0_ := Aside0.mk (below_drew1 HB.out)
            clear HB
            have HB := n0_
            clear n0_
            have p117 : 0 ≤ (0 : Int) := (by omega)
            have q117 : 0 < (l1.length : Int) := of_decide_eq_true (by first | (with_reducible assumption) | assumption)
            obtain ⟨ad117, e117, hx117_0, hx117_1, hx117_2, hx117_3⟩ := at_T26 HR1.out 0 p117 q117
            have hw117_3 := hx117_3
            (try rw [show ((0 : Int)).toNat = 0 from rfl] at hw117_3)
            (try rw [show 0 * 4 = 0 from rfl] at hw117_3)
            (try rw [Addr.add_zero'] at hw117_3)
            have hw117_2 := hx117_2
            (try rw [show ((0 : Int)).toNat = 0 from rfl] at hw117_2)
            (try rw [show 0 * 4 = 0 from rfl] at hw117_2)
            (try rw [Addr.add_zero'] at hw117_2)
            have hw117_1 := hx117_1
            (try rw [show ((0 : Int)).toNat = 0 from rfl] at hw117_1)
            (try rw [show 0 * 4 = 0 from rfl] at hw117_1)
            (try rw [Addr.add_zero'] at hw117_1)
            have hw117_0 := hx117_0
            (try rw [show ((0 : Int)).toNat = 0 from rfl] at hw117_0)
            (try rw [show 0 * 4 = 0 from rfl] at hw117_0)
            (try rw [Addr.add_zero'] at hw117_0)
            cases e117
            have qi117 : (0 < l1.length) = True := eq_true (by omega)
            (try rw [show ((0 : Int)).toNat = 0 from rfl] at hx117_0)
            (try rw [show 0 * 4 = 0 from rfl] at hx117_0)
            (try rw [Addr.add_zero'] at hx117_0)
            (try rw [show ((0 : Int)).toNat = 0 from rfl] at hx117_1)
            (try rw [show 0 * 4 = 0 from rfl] at hx117_1)
            (try rw [Addr.add_zero'] at hx117_1)
            (try rw [show ((0 : Int)).toNat = 0 from rfl] at hx117_2)
            (try rw [show 0 * 4 = 0 from rfl] at hx117_2)
            (try rw [Addr.add_zero'] at hx117_2)
            (try rw [show ((0 : Int)).toNat = 0 from rfl] at hx117_3)
            (try rw [show 0 * 4 = 0 from rfl] at hx117_3)
            (try rw [Addr.add_zero'] at hx117_3)
            replace hx117_0 := (HB.out.cell (World.block_lt_of_cell? w _ hx117_0)).trans hx117_0
            replace hx117_1 := (HB.out.cell (World.block_lt_of_cell? w _ hx117_1)).trans hx117_1
            replace hx117_2 := (HB.out.cell (World.block_lt_of_cell? w _ hx117_2)).trans hx117_2
            replace hx117_3 := (HB.out.cell (World.block_lt_of_cell? w _ hx117_3)).trans hx117_3
            replace p117 := eq_true p117
            replace q117 := eq_true q117
            refine start_ (n := 6) (S := fun w' => w'.cell? ad117 = some (.int .i64 ((rd_T26 l1 0).f0)) ∧ w'.cell? ⟨ad117.block, ad117.off + 1, none⟩ = some (.int .i64 ((rd_T26 l1 0).f1)) ∧ w'.cell? ⟨ad117.block, ad117.off + 2, none⟩ = some (.int .i64 ((rd_T26 l1 0).f2)) ∧ w'.cell? ⟨ad117.block, ad117.off + 3, none⟩ = some (.int .i64 ((rd_T26 l1 0).f3))) (ds := []) #[false, false, false, false, false, false] (by kernel_rfl) rfl rfl ⟨((HB.out.cell (World.block_lt_of_cell? w _ hw117_0)).trans hw117_0), ((HB.out.cell (World.block_lt_of_cell? w _ hw117_1)).trans hw117_1), ((HB.out.cell (World.block_lt_of_cell? w _ hw117_2)).trans hw117_2), ((HB.out.cell (World.block_lt_of_cell? w _ hw117_3)).trans hw117_3)⟩ (fun hHeld => ?_)
            generalize wr.drew = w31 at HB hx117_0 hx117_1 hx117_2 hx117_3 hHeld ⊢
            refine pure_ (i := 0) (N := some 51) (v := ?_) (a' := ?_) #[true, false, false, false, false, false] rfl rfl (by kernel_rfl) (fun _ _ _ h => h) (Or.inl ⟨by rfl, ?_⟩) ?_ ?_
            rotate_left
            · intro w'
              go_simp
              with_reducible rfl
            rotate_left
            · simp only [Act.put, List.setIfInBounds_toArray, List.set_cons_zero, List.set_cons_succ, i64_w, i32_w]
              rfl
            refine pure_ (i := 1) (N := some 52) (v := ?_) (a' := ?_) #[true, true, false, false, false, false] rfl rfl (by kernel_rfl) (fun _ _ _ h => h) (Or.inl ⟨by rfl, ?_⟩) ?_ ?_
            rotate_left
            · intro w'
              go_simp
              with_reducible rfl
            rotate_left
            · simp only [Act.put, List.setIfInBounds_toArray, List.set_cons_zero, List.set_cons_succ, i64_w, i32_w]
              rfl
            refine pure_ (i := 2) (N := some 53) (v := ?_) (a' := ?_) #[true, true, true, false, false, false] rfl rfl (by kernel_rfl) (fun _ _ _ h => h) (Or.inl ⟨by rfl, ?_⟩) ?_ ?_
            rotate_left
            · intro w'
              go_simp
              with_reducible rfl
            rotate_left
            · simp only [Act.put, List.setIfInBounds_toArray, List.set_cons_zero, List.set_cons_succ, i64_w, i32_w]
              rfl
            refine pure_ (i := 4) (N := some 11) (v := ?_) (a' := ?_) #[true, true, true, false, true, false] rfl rfl (by kernel_rfl) (fun _ _ _ h => h) (Or.inl ⟨by rfl, ?_⟩) ?_ ?_
            rotate_left
            · intro w'
              go_simp
              with_reducible rfl
            rotate_left
            · simp only [Act.put, List.setIfInBounds_toArray, List.set_cons_zero, List.set_cons_succ, i64_w, i32_w]
              rfl
            refine take_ (i := 3) (N := some 54) (v := ?_) (a' := ?_) #[true, true, true, true, true, false] rfl rfl (by kernel_rfl) (fun _ _ _ h => h) (Or.inl ⟨by rfl, ?_⟩) hHeld ?_ ?_
            rotate_left
            · rintro w' ⟨s0, s1, s2, s3⟩
              go_simp
              with_reducible rfl
            rotate_left
            · simp only [Act.put, List.setIfInBounds_toArray, List.set_cons_zero, List.set_cons_succ, i64_w, i32_w]
              rfl
            refine pure_ (i := 5) (N := some 12) (v := ?_) (a' := ?_) #[true, true, true, true, true, true] rfl rfl (by kernel_rfl) (fun _ _ _ h => h) (Or.inl ⟨by rfl, ?_⟩) ?_ ?_
            rotate_left
            · intro w'
              go_simp
              with_reducible rfl
            rotate_left
            · simp only [Act.put, List.setIfInBounds_toArray, List.set_cons_zero, List.set_cons_succ, i64_w, i32_w]
              rfl
            refine done_ (by kernel_rfl) ?_
            try go_wp2
            go_loopg [11, 12, 57] k1 (fun kq v11 v12 v57 w' => ∃ (x11_2 : Int) (x12_2 : Int) (x57_2 : Int), v11 = .int .i64 x11_2 ∧ v12 = .int .i64 x12_2 ∧ v57 = .int .i64 x57_2 ∧ Aside0 (flotillaref12_Best.l2 kq l1 x11_2 x12_2 l1 (l1.length : Int) x57_2 = some (r1, r2, r3)) ∧ Aside0 (kq ≤ k1) ∧ Aside0 (Below w.heap.size w w'))
            case atStart => exact ⟨(0), ((rd_T26 l1 0).f3), (0), (by first | rfl | (simp; done) | (simp [*]; done)), (by first | rfl | (simp; done) | (simp [*]; done)), (by first | rfl | (simp; done) | (simp [*]; done)), H', ⟨Nat.le_refl _⟩, ⟨by repeat (first | (with_reducible first | exact HB.out | apply below_alloc | apply pw_below_drewN | apply below_drew1) | exact HB.out)⟩⟩
            case round =>
              clear H'
              try clear c1
              try clear p1
              try clear q1
              try clear hx1
              try clear qi1
              try clear c2
              try clear p2
              try clear c3
              try clear c4
              try clear c5
              try clear c5b0
              try clear c6
              try clear c6b0
              try clear p6
              try clear c7
              try clear c7b0
              try clear p10
              try clear q10
              try clear hx10
              try clear c11
              try clear c11b0
              try clear p11
              try clear q11
              try clear hx11
              try clear qi11
              try clear c14
              try clear c15
              try clear c15b0
              try clear c15b1
              try clear c16
              try clear c16b0
              try clear c16b1
              try clear q17
              try clear c18
              try clear c18b0
              try clear c19
              try clear c19b0
              try clear c20
              try clear c20b0
              try clear c21
              try clear c21b0
              try clear c21b1
              try clear c23
              try clear c27
              try clear c30
              try clear c30b0
              try clear c30b1
              try clear hcz10_0
              try clear hcz10_1
              try clear hcz10_2
              try clear hcz10_3
              try clear hcz12_0
              try clear hcz12_1
              try clear hcz12_2
              try clear hcz12_3
              try clear hcz13_0
              try clear hcz13_1
              try clear hcz13_2
              try clear hcz13_3
              try clear hcz24_0
              try clear hcz24_1
              try clear hcz24_2
              try clear hcz24_3
              try clear hcz25_0
              try clear hcz25_1
              try clear hcz25_2
              try clear hcz25_3
              try clear hcz28_0
              try clear hcz28_1
              try clear hcz28_2
              try clear hcz28_3
              try clear hcz29_0
              try clear hcz29_1
              try clear hcz29_2
              try clear hcz29_3
              try clear hfz10_0
              try clear hfz10_1
              try clear hfz10_2
              try clear hfz10_3
              try clear hfz12_0
              try clear hfz12_1
              try clear hfz12_2
              try clear hfz12_3
              try clear hfz13_0
              try clear hfz13_1
              try clear hfz13_2
              try clear hfz13_3
              try clear hfz24_0
              try clear hfz24_1
              try clear hfz24_2
              try clear hfz24_3
              try clear hfz25_0
              try clear hfz25_1
              try clear hfz25_2
              try clear hfz25_3
              try clear hfz28_0
              try clear hfz28_1
              try clear hfz28_2
              try clear hfz28_3
              try clear hfz29_0
              try clear hfz29_1
              try clear hfz29_2
              try clear hfz29_3
              try clear hx109_0
              try clear hx109_1
              try clear hx109_2
              try clear hx109_3
              try clear hx115_0
              try clear hx115_1
              try clear hx115_2
              try clear hx115_3
              try clear hx117_0
              try clear hx117_1
              try clear hx117_2
              try clear hx117_3
              try clear p1
              try clear p10
              try clear p109
              try clear p115
              try clear p117
              try clear p2
              try clear q1
              try clear q10
              try clear q109
              try clear q115
              try clear q117
              try clear q17
              obtain ⟨x11_2, x12_2, x57_2, rfl, rfl, rfl, HA, HK2, HB⟩ := hrel
              cases gk with
              | zero => exact absurd HA.out (by simp [flotillaref12_Best.l2])
              | succ k2 =>
                have H := HA.out
                clear HA
                simp only [flotillaref12_Best.l2] at H
                by_cases c32 : x57_2 < (l1.length : Int)
                · rw [if_pos c32] at H
                  have c32b0 : decide (x57_2 < (l1.length : Int)) = true := decide_eq_true c32
                  clear c32
                  by_cases c33 : 0 ≤ x57_2
                  · rw [if_pos c33] at H
                    have c33b0 : decide (0 ≤ x57_2) = true := decide_eq_true c33
                    clear c33
                    by_cases c34 : x57_2 < (l1.length : Int)
                    · rw [if_pos c34] at H
                      have c34b0 : decide (x57_2 < (l1.length : Int)) = true := decide_eq_true c34
                      clear c34
                      by_cases c35 : 0 ≤ x11_2
                      · rw [if_pos c35] at H
                        have c35b0 : decide (0 ≤ x11_2) = true := decide_eq_true c35
                        clear c35
                        by_cases c36 : x11_2 < (l1.length : Int)
                        · rw [if_pos c36] at H
                          have c36b0 : decide (x11_2 < (l1.length : Int)) = true := decide_eq_true c36
                          clear c36
                          replace H := Option.bind_eq_some_iff.mp H
                          obtain ⟨t121, A370, H⟩ := H
                          replace H : (if t121 = true then (if ((rd_T26 l1 x57_2).f3) > x12_2 then (flotillaref12_Best.l2 k2 l1 x57_2 ((rd_T26 l1 x57_2).f3) l1 (l1.length : Int) (wrap64 (x57_2 + 1))) else (flotillaref12_Best.l2 k2 l1 x57_2 x12_2 l1 (l1.length : Int) (wrap64 (x57_2 + 1)))) else (if ((rd_T26 l1 x57_2).f3) > x12_2 then (flotillaref12_Best.l2 k2 l1 x11_2 ((rd_T26 l1 x57_2).f3) l1 (l1.length : Int) (wrap64 (x57_2 + 1))) else (flotillaref12_Best.l2 k2 l1 x11_2 x12_2 l1 (l1.length : Int) (wrap64 (x57_2 + 1))))) = some (r1, r2, r3) := H
                          have A37 := Aside0.mk A370
                          clear A370
                          by_cases c38 : t121 = true
                          · subst c38
                            have H1 : (if ((rd_T26 l1 x57_2).f3) > x12_2 then (flotillaref12_Best.l2 k2 l1 x57_2 ((rd_T26 l1 x57_2).f3) l1 (l1.length : Int) (wrap64 (x57_2 + 1))) else (flotillaref12_Best.l2 k2 l1 x57_2 x12_2 l1 (l1.length : Int) (wrap64 (x57_2 + 1)))) = some (r1, r2, r3) := by rw [if_pos rfl] at H; exact H
                            clear H
                            have H := H1
                            clear H1
                            by_cases c39 : ((rd_T26 l1 x57_2).f3) > x12_2
                            · rw [if_pos c39] at H
                              have c39b0 : decide (x12_2 < ((rd_T26 l1 x57_2).f3)) = true := decide_eq_true c39
                              clear c39
                              have H' := Aside0.mk H
                              clear H
                              have p118 : 0 ≤ (x57_2 : Int) := of_decide_eq_true (by first | (with_reducible assumption) | assumption)
                              have q118 : x57_2 < (l1.length : Int) := of_decide_eq_true (by first | (with_reducible assumption) | assumption)
                              obtain ⟨ad118, e118, hx118_0, hx118_1, hx118_2, hx118_3⟩ := at_T26 HR1.out x57_2 p118 q118
                              obtain rfl : ad117 = ad118 := (by injection e118)
                              replace hx118_0 := (HB.out.cell (World.block_lt_of_cell? w _ hx118_0)).trans hx118_0
                              replace hx118_1 := (HB.out.cell (World.block_lt_of_cell? w _ hx118_1)).trans hx118_1
                              replace hx118_2 := (HB.out.cell (World.block_lt_of_cell? w _ hx118_2)).trans hx118_2
                              replace hx118_3 := (HB.out.cell (World.block_lt_of_cell? w _ hx118_3)).trans hx118_3
                              replace p118 := eq_true p118
                              replace q118 := eq_true q118
                              try go_wp2_with (first | ((with_reducible refine gate_dst (N := 14) rfl ?_); refine box_event ?hg (N := 14) ?hd (cs := #[.int .i64 0, .int .i64 0, .int .i64 0, .int .i64 0]) (t := 26) ?hr ?_; (case hd => rfl); (case hg => rfl); (case hr => first | (go_simp; done) | (go_simp; rfl)); intro gb119 hg w40 hbox hb; have n0_ := Aside0.mk (below_step (by repeat (first | (with_reducible first | exact HB.out | apply below_alloc | apply pw_below_drewN | apply below_drew1) | exact HB.out)) hb); have n1_ := Aside0.mk (hbox); have n2_ := Aside0.mk ((by rw [hg]; exact (below_size (by repeat (first | (with_reducible first | exact HB.out | apply below_alloc | apply pw_below_drewN | apply below_drew1) | exact HB.out))) : w.heap.size ≤ gb119)); have n3_ := Aside0.mk ((by rw [hg]; exact (below_size (by repeat (first | (with_reducible first | exact HB.out | apply below_alloc | apply pw_below_drewN | apply below_drew1) | exact HB.out))) : w.heap.size ≤ gb119)); clear HB; have HB := n0_; have BK119 := n1_; have GW119 := n2_; have GE119 := n3_; clear n0_ n1_ n2_ n3_; clear hb hbox hg; have hcz41_0 : w40.cell? ⟨gb119, 0, none⟩ = some (.int .i64 0) := (blk_cell BK119.out 0).trans rfl; have hcz41_1 : w40.cell? ⟨gb119, 1, none⟩ = some (.int .i64 0) := (blk_cell BK119.out 1).trans rfl; have hcz41_2 : w40.cell? ⟨gb119, 2, none⟩ = some (.int .i64 0) := (blk_cell BK119.out 2).trans rfl; have hcz41_3 : w40.cell? ⟨gb119, 3, none⟩ = some (.int .i64 0) := (blk_cell BK119.out 3).trans rfl; have hfz41_0 := blk_frozen BK119.out 0; have hfz41_1 := blk_frozen BK119.out 1; have hfz41_2 := blk_frozen BK119.out 2; have hfz41_3 := blk_frozen BK119.out 3))
                              have n0_ : Aside0 (((((w40.setCell ⟨gb119, 0, none⟩ (.int .i64 ((rd_T26 l1 x57_2).f0))).setCell ⟨gb119, 1, none⟩ (.int .i64 ((rd_T26 l1 x57_2).f1))).setCell ⟨gb119, 2, none⟩ (.int .i64 ((rd_T26 l1 x57_2).f2))).setCell ⟨gb119, 3, none⟩ (.int .i64 ((rd_T26 l1 x57_2).f3))).heap[gb119]? = some (.cells #[.int .i64 ((rd_T26 l1 x57_2).f0), .int .i64 ((rd_T26 l1 x57_2).f1), .int .i64 ((rd_T26 l1 x57_2).f2), .int .i64 ((rd_T26 l1 x57_2).f3)] 26 (0, 0))) := ⟨by (with_reducible repeat (first | refine blk_drewN ?_ _ | refine blk_drew ?_ | refine blk_alloc ?_ _)); refine blk_put (cs := #[.int .i64 ((rd_T26 l1 x57_2).f0), .int .i64 ((rd_T26 l1 x57_2).f1), .int .i64 ((rd_T26 l1 x57_2).f2), .int .i64 0]) ?_ 3 _ rfl; (with_reducible repeat (first | refine blk_drewN ?_ _ | refine blk_drew ?_ | refine blk_alloc ?_ _)); refine blk_put (cs := #[.int .i64 ((rd_T26 l1 x57_2).f0), .int .i64 ((rd_T26 l1 x57_2).f1), .int .i64 0, .int .i64 0]) ?_ 2 _ rfl; (with_reducible repeat (first | refine blk_drewN ?_ _ | refine blk_drew ?_ | refine blk_alloc ?_ _)); refine blk_put (cs := #[.int .i64 ((rd_T26 l1 x57_2).f0), .int .i64 0, .int .i64 0, .int .i64 0]) ?_ 1 _ rfl; (with_reducible repeat (first | refine blk_drewN ?_ _ | refine blk_drew ?_ | refine blk_alloc ?_ _)); refine blk_put (cs := #[.int .i64 0, .int .i64 0, .int .i64 0, .int .i64 0]) ?_ 0 _ rfl; (with_reducible repeat (first | refine blk_drewN ?_ _ | refine blk_drew ?_ | refine blk_alloc ?_ _)); exact BK119.out⟩
                              have n1_ : Aside0 (Below w.heap.size w ((((w40.setCell ⟨gb119, 0, none⟩ (.int .i64 ((rd_T26 l1 x57_2).f0))).setCell ⟨gb119, 1, none⟩ (.int .i64 ((rd_T26 l1 x57_2).f1))).setCell ⟨gb119, 2, none⟩ (.int .i64 ((rd_T26 l1 x57_2).f2))).setCell ⟨gb119, 3, none⟩ (.int .i64 ((rd_T26 l1 x57_2).f3)))) := ⟨by repeat (first | (with_reducible first | exact HB.out | apply below_alloc | apply pw_below_drewN | apply below_drew1 | refine below_set ?_ GE119.out) | exact HB.out)⟩
                              (try clear BK119)
                              (try clear HB)
                              generalize ((((w40.setCell ⟨gb119, 0, none⟩ (.int .i64 ((rd_T26 l1 x57_2).f0))).setCell ⟨gb119, 1, none⟩ (.int .i64 ((rd_T26 l1 x57_2).f1))).setCell ⟨gb119, 2, none⟩ (.int .i64 ((rd_T26 l1 x57_2).f2))).setCell ⟨gb119, 3, none⟩ (.int .i64 ((rd_T26 l1 x57_2).f3))) = w42 at n0_ n1_ ⊢
                              have BK119 := n0_
                              have HB := n1_
                              clear n0_ n1_
                              have n0_ := Aside0.mk (blk_drew BK119.out)
                              have n1_ := Aside0.mk (below_drew1 HB.out)
                              clear BK119
                              clear HB
                              have BK119 := n0_
                              have HB := n1_
                              clear n0_ n1_
                              have p120 : 0 ≤ (x11_2 : Int) := of_decide_eq_true (by first | (with_reducible assumption) | assumption)
                              have q120 : x11_2 < (l1.length : Int) := of_decide_eq_true (by first | (with_reducible assumption) | assumption)
                              obtain ⟨ad120, e120, hx120_0, hx120_1, hx120_2, hx120_3⟩ := at_T26 HR1.out x11_2 p120 q120
                              have hw120_3 := hx120_3
                              have hw120_2 := hx120_2
                              have hw120_1 := hx120_1
                              have hw120_0 := hx120_0
                              obtain rfl : ad117 = ad120 := (by injection e120)
                              replace hx120_0 := (HB.out.cell (World.block_lt_of_cell? w _ hx120_0)).trans hx120_0
                              replace hx120_1 := (HB.out.cell (World.block_lt_of_cell? w _ hx120_1)).trans hx120_1
                              replace hx120_2 := (HB.out.cell (World.block_lt_of_cell? w _ hx120_2)).trans hx120_2
                              replace hx120_3 := (HB.out.cell (World.block_lt_of_cell? w _ hx120_3)).trans hx120_3
                              replace p120 := eq_true p120
                              replace q120 := eq_true q120
                              refine start_ (n := 6) (S := fun w' => w'.cell? ⟨gb119, 0, none⟩ = some (.int .i64 ((rd_T26 l1 x57_2).f0)) ∧ w'.cell? ⟨gb119, 1, none⟩ = some (.int .i64 ((rd_T26 l1 x57_2).f1)) ∧ w'.cell? ⟨gb119, 2, none⟩ = some (.int .i64 ((rd_T26 l1 x57_2).f2)) ∧ w'.cell? ⟨gb119, 3, none⟩ = some (.int .i64 ((rd_T26 l1 x57_2).f3)) ∧ w'.cell? (ad117.add ((x11_2).toNat * 4)) = some (.int .i64 ((rd_T26 l1 x11_2).f0)) ∧ w'.cell? ⟨(ad117.add ((x11_2).toNat * 4)).block, (ad117.add ((x11_2).toNat * 4)).off + 1, none⟩ = some (.int .i64 ((rd_T26 l1 x11_2).f1)) ∧ w'.cell? ⟨(ad117.add ((x11_2).toNat * 4)).block, (ad117.add ((x11_2).toNat * 4)).off + 2, none⟩ = some (.int .i64 ((rd_T26 l1 x11_2).f2)) ∧ w'.cell? ⟨(ad117.add ((x11_2).toNat * 4)).block, (ad117.add ((x11_2).toNat * 4)).off + 3, none⟩ = some (.int .i64 ((rd_T26 l1 x11_2).f3))) (ds := []) #[false, false, false, false, false, false] (by kernel_rfl) rfl rfl ⟨(blk_cell BK119.out 0).trans rfl, (blk_cell BK119.out 1).trans rfl, (blk_cell BK119.out 2).trans rfl, (blk_cell BK119.out 3).trans rfl, ((HB.out.cell (World.block_lt_of_cell? w _ hw120_0)).trans hw120_0), ((HB.out.cell (World.block_lt_of_cell? w _ hw120_1)).trans hw120_1), ((HB.out.cell (World.block_lt_of_cell? w _ hw120_2)).trans hw120_2), ((HB.out.cell (World.block_lt_of_cell? w _ hw120_3)).trans hw120_3)⟩ (fun hHeld => ?_)
                              generalize w42.drew = w43 at BK119 HB hx120_0 hx120_1 hx120_2 hx120_3 hHeld ⊢
                              refine pure_ (i := 1) (N := some 63) (v := ?_) (a' := ?_) #[false, true, false, false, false, false] rfl rfl (by kernel_rfl) (fun _ _ _ h => h) (Or.inl ⟨by rfl, ?_⟩) ?_ ?_
                              rotate_left
                              · intro w'
                                go_simp
                                with_reducible rfl
                              rotate_left
                              · simp only [Act.put, List.setIfInBounds_toArray, List.set_cons_zero, List.set_cons_succ, i64_w, i32_w]
                                rfl
                              refine pure_ (i := 2) (N := some 64) (v := ?_) (a' := ?_) #[false, true, true, false, false, false] rfl rfl (by kernel_rfl) (fun _ _ _ h => h) (Or.inl ⟨by rfl, ?_⟩) ?_ ?_
                              rotate_left
                              · intro w'
                                go_simp
                                with_reducible rfl
                              rotate_left
                              · simp only [Act.put, List.setIfInBounds_toArray, List.set_cons_zero, List.set_cons_succ, i64_w, i32_w]
                                rfl
                              refine pure_ (i := 3) (N := some 65) (v := ?_) (a' := ?_) #[false, true, true, true, false, false] rfl rfl (by kernel_rfl) (fun _ _ _ h => h) (Or.inl ⟨by rfl, ?_⟩) ?_ ?_
                              rotate_left
                              · intro w'
                                go_simp
                                with_reducible rfl
                              rotate_left
                              · simp only [Act.put, List.setIfInBounds_toArray, List.set_cons_zero, List.set_cons_succ, i64_w, i32_w]
                                rfl
                              refine take_ (i := 0) (N := some 62) (v := ?_) (a' := ?_) #[true, true, true, true, false, false] rfl rfl (by kernel_rfl) (fun _ _ _ h => h) (Or.inl ⟨by rfl, ?_⟩) hHeld ?_ ?_
                              rotate_left
                              · rintro w' ⟨s0, s1, s2, s3, s4, s5, s6, s7⟩
                                go_simp
                                with_reducible rfl
                              rotate_left
                              · simp only [Act.put, List.setIfInBounds_toArray, List.set_cons_zero, List.set_cons_succ, i64_w, i32_w]
                                rfl
                              refine take_ (i := 4) (N := some 66) (v := ?_) (a' := ?_) #[true, true, true, true, true, false] rfl rfl (by kernel_rfl) (fun _ _ _ h => h) (Or.inl ⟨by rfl, ?_⟩) hHeld ?_ ?_
                              rotate_left
                              · rintro w' ⟨s0, s1, s2, s3, s4, s5, s6, s7⟩
                                go_simp
                                with_reducible rfl
                              rotate_left
                              · simp only [Act.put, List.setIfInBounds_toArray, List.set_cons_zero, List.set_cons_succ, i64_w, i32_w]
                                rfl
                              refine one_ (i := 5) (N := some 67) #[true, true, true, true, true, true] rfl rfl (by kernel_rfl) (by decide) (fun K hK => ?_)
                              refine goes_ Try.func73 (by kernel_rfl) rfl #[.agg #[.int .i64 ((rd_T26 l1 x57_2).f0), .int .i64 ((rd_T26 l1 x57_2).f1), .int .i64 ((rd_T26 l1 x57_2).f2), .int .i64 ((rd_T26 l1 x57_2).f3)], .agg #[.int .i64 ((rd_T26 l1 x11_2).f0), .int .i64 ((rd_T26 l1 x11_2).f1), .int .i64 ((rd_T26 l1 x11_2).f2), .int .i64 ((rd_T26 l1 x11_2).f3)]] (by rfl) rfl rfl (by (try simp only [List.map_toArray, List.map_cons, List.map_nil]); first | done | rfl | (simp only [List.length_drop, List.length_take]; rfl)) ?_
                              with_reducible refine (flotillaref12_ahead.calls ((rd_T26 l1 x57_2).f0) ((rd_T26 l1 x57_2).f1) ((rd_T26 l1 x57_2).f2) ((rd_T26 l1 x57_2).f3) ((rd_T26 l1 x11_2).f0) ((rd_T26 l1 x11_2).f1) ((rd_T26 l1 x11_2).f2) ((rd_T26 l1 x11_2).f3) true _ A37.out).mono ?_
                              rintro e w44 ⟨rfl, hb⟩
                              refine ⟨_, rfl, ?_⟩
                              have n0_ := Aside0.mk (blk_below (g := gb119) (o := .cells #[.int .i64 ((rd_T26 l1 x57_2).f0), .int .i64 ((rd_T26 l1 x57_2).f1), .int .i64 ((rd_T26 l1 x57_2).f2), .int .i64 ((rd_T26 l1 x57_2).f3)] 26 (0, 0)) (by (with_reducible repeat (first | refine blk_drewN ?_ _ | refine blk_drew ?_ | refine blk_alloc ?_ _)); exact BK119.out) hb)
                              have n1_ := Aside0.mk (below_step (by repeat (first | (with_reducible first | exact HB.out | apply below_alloc | apply pw_below_drewN | apply below_drew1 | refine below_set ?_ GE119.out) | exact HB.out)) hb)
                              clear BK119
                              clear HB
                              have BK119 := n0_
                              have HB := n1_
                              clear n0_ n1_
                              (try clear hb)
                              (try clear hb2)
                              (try clear hk)
                              (try clear hi)
                              refine hK.out _ _ ⟨(blk_cell BK119.out 0).trans rfl, (blk_cell BK119.out 1).trans rfl, (blk_cell BK119.out 2).trans rfl, (blk_cell BK119.out 3).trans rfl, ((HB.out.cell (World.block_lt_of_cell? w _ hw120_0)).trans hw120_0), ((HB.out.cell (World.block_lt_of_cell? w _ hw120_1)).trans hw120_1), ((HB.out.cell (World.block_lt_of_cell? w _ hw120_2)).trans hw120_2), ((HB.out.cell (World.block_lt_of_cell? w _ hw120_3)).trans hw120_3)⟩ (fun hHeld => ?_)
                              clear hK K
                              refine norm_ (a' := ?_) ?_ ?_
                              rotate_left
                              · show Act.put _ (some 67) _ = _
                                simp only [Act.put, List.setIfInBounds_toArray, List.set_cons_zero, List.set_cons_succ, i64_w, i32_w]
                                rfl
                              refine done_ (by kernel_rfl) ?_
                              have hcz45_0 : w44.cell? ⟨gb119, 0, none⟩ = some (.int .i64 ((rd_T26 l1 x57_2).f0)) := (blk_cell BK119.out 0).trans rfl
                              have hcz45_1 : w44.cell? ⟨gb119, 1, none⟩ = some (.int .i64 ((rd_T26 l1 x57_2).f1)) := (blk_cell BK119.out 1).trans rfl
                              have hcz45_2 : w44.cell? ⟨gb119, 2, none⟩ = some (.int .i64 ((rd_T26 l1 x57_2).f2)) := (blk_cell BK119.out 2).trans rfl
                              have hcz45_3 : w44.cell? ⟨gb119, 3, none⟩ = some (.int .i64 ((rd_T26 l1 x57_2).f3)) := (blk_cell BK119.out 3).trans rfl
                              have hfz45_0 := blk_frozen BK119.out 0
                              have hfz45_1 := blk_frozen BK119.out 1
                              have hfz45_2 := blk_frozen BK119.out 2
                              have hfz45_3 := blk_frozen BK119.out 3
                              try go_wp2
                              go_roundg k2
                              case measure => have := HK1.out; have := HK2.out; omega
                              case rel => exact ⟨(x57_2), ((rd_T26 l1 x57_2).f3), (wrap64 (x57_2 + 1)), (by first | rfl | (simp; done) | (simp [*]; done)), (by first | rfl | (simp; done) | (simp [*]; done)), (by first | rfl | (simp; done) | (simp [*]; done)), H', ⟨by have := HK1.out; have := HK2.out; omega⟩, ⟨by repeat (first | (with_reducible first | exact HB.out | apply below_alloc | apply pw_below_drewN | apply below_drew1 | refine below_set ?_ GE119.out) | exact HB.out)⟩⟩
                            · rw [if_neg c39] at H
                              have c39b0 : decide (x12_2 < ((rd_T26 l1 x57_2).f3)) = false := decide_eq_false c39
                              clear c39
                              have H' := Aside0.mk H
                              clear H
                              have p118 : 0 ≤ (x57_2 : Int) := of_decide_eq_true (by first | (with_reducible assumption) | assumption)
                              have q118 : x57_2 < (l1.length : Int) := of_decide_eq_true (by first | (with_reducible assumption) | assumption)
                              obtain ⟨ad118, e118, hx118_0, hx118_1, hx118_2, hx118_3⟩ := at_T26 HR1.out x57_2 p118 q118
                              obtain rfl : ad117 = ad118 := (by injection e118)
                              replace hx118_0 := (HB.out.cell (World.block_lt_of_cell? w _ hx118_0)).trans hx118_0
                              replace hx118_1 := (HB.out.cell (World.block_lt_of_cell? w _ hx118_1)).trans hx118_1
                              replace hx118_2 := (HB.out.cell (World.block_lt_of_cell? w _ hx118_2)).trans hx118_2
                              replace hx118_3 := (HB.out.cell (World.block_lt_of_cell? w _ hx118_3)).trans hx118_3
                              replace p118 := eq_true p118
                              replace q118 := eq_true q118
                              try go_wp2_with (first | ((with_reducible refine gate_dst (N := 14) rfl ?_); refine box_event ?hg (N := 14) ?hd (cs := #[.int .i64 0, .int .i64 0, .int .i64 0, .int .i64 0]) (t := 26) ?hr ?_; (case hd => rfl); (case hg => rfl); (case hr => first | (go_simp; done) | (go_simp; rfl)); intro gb119 hg w46 hbox hb; have n0_ := Aside0.mk (below_step (by repeat (first | (with_reducible first | exact HB.out | apply below_alloc | apply pw_below_drewN | apply below_drew1) | exact HB.out)) hb); have n1_ := Aside0.mk (hbox); have n2_ := Aside0.mk ((by rw [hg]; exact (below_size (by repeat (first | (with_reducible first | exact HB.out | apply below_alloc | apply pw_below_drewN | apply below_drew1) | exact HB.out))) : w.heap.size ≤ gb119)); have n3_ := Aside0.mk ((by rw [hg]; exact (below_size (by repeat (first | (with_reducible first | exact HB.out | apply below_alloc | apply pw_below_drewN | apply below_drew1) | exact HB.out))) : w.heap.size ≤ gb119)); clear HB; have HB := n0_; have BK119 := n1_; have GW119 := n2_; have GE119 := n3_; clear n0_ n1_ n2_ n3_; clear hb hbox hg; have hcz47_0 : w46.cell? ⟨gb119, 0, none⟩ = some (.int .i64 0) := (blk_cell BK119.out 0).trans rfl; have hcz47_1 : w46.cell? ⟨gb119, 1, none⟩ = some (.int .i64 0) := (blk_cell BK119.out 1).trans rfl; have hcz47_2 : w46.cell? ⟨gb119, 2, none⟩ = some (.int .i64 0) := (blk_cell BK119.out 2).trans rfl; have hcz47_3 : w46.cell? ⟨gb119, 3, none⟩ = some (.int .i64 0) := (blk_cell BK119.out 3).trans rfl; have hfz47_0 := blk_frozen BK119.out 0; have hfz47_1 := blk_frozen BK119.out 1; have hfz47_2 := blk_frozen BK119.out 2; have hfz47_3 := blk_frozen BK119.out 3))
                              have n0_ : Aside0 (((((w46.setCell ⟨gb119, 0, none⟩ (.int .i64 ((rd_T26 l1 x57_2).f0))).setCell ⟨gb119, 1, none⟩ (.int .i64 ((rd_T26 l1 x57_2).f1))).setCell ⟨gb119, 2, none⟩ (.int .i64 ((rd_T26 l1 x57_2).f2))).setCell ⟨gb119, 3, none⟩ (.int .i64 ((rd_T26 l1 x57_2).f3))).heap[gb119]? = some (.cells #[.int .i64 ((rd_T26 l1 x57_2).f0), .int .i64 ((rd_T26 l1 x57_2).f1), .int .i64 ((rd_T26 l1 x57_2).f2), .int .i64 ((rd_T26 l1 x57_2).f3)] 26 (0, 0))) := ⟨by (with_reducible repeat (first | refine blk_drewN ?_ _ | refine blk_drew ?_ | refine blk_alloc ?_ _)); refine blk_put (cs := #[.int .i64 ((rd_T26 l1 x57_2).f0), .int .i64 ((rd_T26 l1 x57_2).f1), .int .i64 ((rd_T26 l1 x57_2).f2), .int .i64 0]) ?_ 3 _ rfl; (with_reducible repeat (first | refine blk_drewN ?_ _ | refine blk_drew ?_ | refine blk_alloc ?_ _)); refine blk_put (cs := #[.int .i64 ((rd_T26 l1 x57_2).f0), .int .i64 ((rd_T26 l1 x57_2).f1), .int .i64 0, .int .i64 0]) ?_ 2 _ rfl; (with_reducible repeat (first | refine blk_drewN ?_ _ | refine blk_drew ?_ | refine blk_alloc ?_ _)); refine blk_put (cs := #[.int .i64 ((rd_T26 l1 x57_2).f0), .int .i64 0, .int .i64 0, .int .i64 0]) ?_ 1 _ rfl; (with_reducible repeat (first | refine blk_drewN ?_ _ | refine blk_drew ?_ | refine blk_alloc ?_ _)); refine blk_put (cs := #[.int .i64 0, .int .i64 0, .int .i64 0, .int .i64 0]) ?_ 0 _ rfl; (with_reducible repeat (first | refine blk_drewN ?_ _ | refine blk_drew ?_ | refine blk_alloc ?_ _)); exact BK119.out⟩
                              have n1_ : Aside0 (Below w.heap.size w ((((w46.setCell ⟨gb119, 0, none⟩ (.int .i64 ((rd_T26 l1 x57_2).f0))).setCell ⟨gb119, 1, none⟩ (.int .i64 ((rd_T26 l1 x57_2).f1))).setCell ⟨gb119, 2, none⟩ (.int .i64 ((rd_T26 l1 x57_2).f2))).setCell ⟨gb119, 3, none⟩ (.int .i64 ((rd_T26 l1 x57_2).f3)))) := ⟨by repeat (first | (with_reducible first | exact HB.out | apply below_alloc | apply pw_below_drewN | apply below_drew1 | refine below_set ?_ GE119.out) | exact HB.out)⟩
                              (try clear BK119)
                              (try clear HB)
                              generalize ((((w46.setCell ⟨gb119, 0, none⟩ (.int .i64 ((rd_T26 l1 x57_2).f0))).setCell ⟨gb119, 1, none⟩ (.int .i64 ((rd_T26 l1 x57_2).f1))).setCell ⟨gb119, 2, none⟩ (.int .i64 ((rd_T26 l1 x57_2).f2))).setCell ⟨gb119, 3, none⟩ (.int .i64 ((rd_T26 l1 x57_2).f3))) = w48 at n0_ n1_ ⊢
                              have BK119 := n0_
                              have HB := n1_
                              clear n0_ n1_
                              have n0_ := Aside0.mk (blk_drew BK119.out)
                              have n1_ := Aside0.mk (below_drew1 HB.out)
                              clear BK119
                              clear HB
                              have BK119 := n0_
                              have HB := n1_
                              clear n0_ n1_
                              have p120 : 0 ≤ (x11_2 : Int) := of_decide_eq_true (by first | (with_reducible assumption) | assumption)
                              have q120 : x11_2 < (l1.length : Int) := of_decide_eq_true (by first | (with_reducible assumption) | assumption)
                              obtain ⟨ad120, e120, hx120_0, hx120_1, hx120_2, hx120_3⟩ := at_T26 HR1.out x11_2 p120 q120
                              have hw120_3 := hx120_3
                              have hw120_2 := hx120_2
                              have hw120_1 := hx120_1
                              have hw120_0 := hx120_0
                              obtain rfl : ad117 = ad120 := (by injection e120)
                              replace hx120_0 := (HB.out.cell (World.block_lt_of_cell? w _ hx120_0)).trans hx120_0
                              replace hx120_1 := (HB.out.cell (World.block_lt_of_cell? w _ hx120_1)).trans hx120_1
                              replace hx120_2 := (HB.out.cell (World.block_lt_of_cell? w _ hx120_2)).trans hx120_2
                              replace hx120_3 := (HB.out.cell (World.block_lt_of_cell? w _ hx120_3)).trans hx120_3
                              replace p120 := eq_true p120
                              replace q120 := eq_true q120
                              refine start_ (n := 6) (S := fun w' => w'.cell? ⟨gb119, 0, none⟩ = some (.int .i64 ((rd_T26 l1 x57_2).f0)) ∧ w'.cell? ⟨gb119, 1, none⟩ = some (.int .i64 ((rd_T26 l1 x57_2).f1)) ∧ w'.cell? ⟨gb119, 2, none⟩ = some (.int .i64 ((rd_T26 l1 x57_2).f2)) ∧ w'.cell? ⟨gb119, 3, none⟩ = some (.int .i64 ((rd_T26 l1 x57_2).f3)) ∧ w'.cell? (ad117.add ((x11_2).toNat * 4)) = some (.int .i64 ((rd_T26 l1 x11_2).f0)) ∧ w'.cell? ⟨(ad117.add ((x11_2).toNat * 4)).block, (ad117.add ((x11_2).toNat * 4)).off + 1, none⟩ = some (.int .i64 ((rd_T26 l1 x11_2).f1)) ∧ w'.cell? ⟨(ad117.add ((x11_2).toNat * 4)).block, (ad117.add ((x11_2).toNat * 4)).off + 2, none⟩ = some (.int .i64 ((rd_T26 l1 x11_2).f2)) ∧ w'.cell? ⟨(ad117.add ((x11_2).toNat * 4)).block, (ad117.add ((x11_2).toNat * 4)).off + 3, none⟩ = some (.int .i64 ((rd_T26 l1 x11_2).f3))) (ds := []) #[false, false, false, false, false, false] (by kernel_rfl) rfl rfl ⟨(blk_cell BK119.out 0).trans rfl, (blk_cell BK119.out 1).trans rfl, (blk_cell BK119.out 2).trans rfl, (blk_cell BK119.out 3).trans rfl, ((HB.out.cell (World.block_lt_of_cell? w _ hw120_0)).trans hw120_0), ((HB.out.cell (World.block_lt_of_cell? w _ hw120_1)).trans hw120_1), ((HB.out.cell (World.block_lt_of_cell? w _ hw120_2)).trans hw120_2), ((HB.out.cell (World.block_lt_of_cell? w _ hw120_3)).trans hw120_3)⟩ (fun hHeld => ?_)
                              generalize w48.drew = w49 at BK119 HB hx120_0 hx120_1 hx120_2 hx120_3 hHeld ⊢
                              refine pure_ (i := 1) (N := some 63) (v := ?_) (a' := ?_) #[false, true, false, false, false, false] rfl rfl (by kernel_rfl) (fun _ _ _ h => h) (Or.inl ⟨by rfl, ?_⟩) ?_ ?_
                              rotate_left
                              · intro w'
                                go_simp
                                with_reducible rfl
                              rotate_left
                              · simp only [Act.put, List.setIfInBounds_toArray, List.set_cons_zero, List.set_cons_succ, i64_w, i32_w]
                                rfl
                              refine pure_ (i := 2) (N := some 64) (v := ?_) (a' := ?_) #[false, true, true, false, false, false] rfl rfl (by kernel_rfl) (fun _ _ _ h => h) (Or.inl ⟨by rfl, ?_⟩) ?_ ?_
                              rotate_left
                              · intro w'
                                go_simp
                                with_reducible rfl
                              rotate_left
                              · simp only [Act.put, List.setIfInBounds_toArray, List.set_cons_zero, List.set_cons_succ, i64_w, i32_w]
                                rfl
                              refine pure_ (i := 3) (N := some 65) (v := ?_) (a' := ?_) #[false, true, true, true, false, false] rfl rfl (by kernel_rfl) (fun _ _ _ h => h) (Or.inl ⟨by rfl, ?_⟩) ?_ ?_
                              rotate_left
                              · intro w'
                                go_simp
                                with_reducible rfl
                              rotate_left
                              · simp only [Act.put, List.setIfInBounds_toArray, List.set_cons_zero, List.set_cons_succ, i64_w, i32_w]
                                rfl
                              refine take_ (i := 0) (N := some 62) (v := ?_) (a' := ?_) #[true, true, true, true, false, false] rfl rfl (by kernel_rfl) (fun _ _ _ h => h) (Or.inl ⟨by rfl, ?_⟩) hHeld ?_ ?_
                              rotate_left
                              · rintro w' ⟨s0, s1, s2, s3, s4, s5, s6, s7⟩
                                go_simp
                                with_reducible rfl
                              rotate_left
                              · simp only [Act.put, List.setIfInBounds_toArray, List.set_cons_zero, List.set_cons_succ, i64_w, i32_w]
                                rfl
                              refine take_ (i := 4) (N := some 66) (v := ?_) (a' := ?_) #[true, true, true, true, true, false] rfl rfl (by kernel_rfl) (fun _ _ _ h => h) (Or.inl ⟨by rfl, ?_⟩) hHeld ?_ ?_
                              rotate_left
                              · rintro w' ⟨s0, s1, s2, s3, s4, s5, s6, s7⟩
                                go_simp
                                with_reducible rfl
                              rotate_left
                              · simp only [Act.put, List.setIfInBounds_toArray, List.set_cons_zero, List.set_cons_succ, i64_w, i32_w]
                                rfl
                              refine one_ (i := 5) (N := some 67) #[true, true, true, true, true, true] rfl rfl (by kernel_rfl) (by decide) (fun K hK => ?_)
                              refine goes_ Try.func73 (by kernel_rfl) rfl #[.agg #[.int .i64 ((rd_T26 l1 x57_2).f0), .int .i64 ((rd_T26 l1 x57_2).f1), .int .i64 ((rd_T26 l1 x57_2).f2), .int .i64 ((rd_T26 l1 x57_2).f3)], .agg #[.int .i64 ((rd_T26 l1 x11_2).f0), .int .i64 ((rd_T26 l1 x11_2).f1), .int .i64 ((rd_T26 l1 x11_2).f2), .int .i64 ((rd_T26 l1 x11_2).f3)]] (by rfl) rfl rfl (by (try simp only [List.map_toArray, List.map_cons, List.map_nil]); first | done | rfl | (simp only [List.length_drop, List.length_take]; rfl)) ?_
                              with_reducible refine (flotillaref12_ahead.calls ((rd_T26 l1 x57_2).f0) ((rd_T26 l1 x57_2).f1) ((rd_T26 l1 x57_2).f2) ((rd_T26 l1 x57_2).f3) ((rd_T26 l1 x11_2).f0) ((rd_T26 l1 x11_2).f1) ((rd_T26 l1 x11_2).f2) ((rd_T26 l1 x11_2).f3) true _ A37.out).mono ?_
                              rintro e w50 ⟨rfl, hb⟩
                              refine ⟨_, rfl, ?_⟩
                              have n0_ := Aside0.mk (blk_below (g := gb119) (o := .cells #[.int .i64 ((rd_T26 l1 x57_2).f0), .int .i64 ((rd_T26 l1 x57_2).f1), .int .i64 ((rd_T26 l1 x57_2).f2), .int .i64 ((rd_T26 l1 x57_2).f3)] 26 (0, 0)) (by (with_reducible repeat (first | refine blk_drewN ?_ _ | refine blk_drew ?_ | refine blk_alloc ?_ _)); exact BK119.out) hb)
                              have n1_ := Aside0.mk (below_step (by repeat (first | (with_reducible first | exact HB.out | apply below_alloc | apply pw_below_drewN | apply below_drew1 | refine below_set ?_ GE119.out) | exact HB.out)) hb)
                              clear BK119
                              clear HB
                              have BK119 := n0_
                              have HB := n1_
                              clear n0_ n1_
                              (try clear hb)
                              (try clear hb2)
                              (try clear hk)
                              (try clear hi)
                              refine hK.out _ _ ⟨(blk_cell BK119.out 0).trans rfl, (blk_cell BK119.out 1).trans rfl, (blk_cell BK119.out 2).trans rfl, (blk_cell BK119.out 3).trans rfl, ((HB.out.cell (World.block_lt_of_cell? w _ hw120_0)).trans hw120_0), ((HB.out.cell (World.block_lt_of_cell? w _ hw120_1)).trans hw120_1), ((HB.out.cell (World.block_lt_of_cell? w _ hw120_2)).trans hw120_2), ((HB.out.cell (World.block_lt_of_cell? w _ hw120_3)).trans hw120_3)⟩ (fun hHeld => ?_)
                              clear hK K
                              refine norm_ (a' := ?_) ?_ ?_
                              rotate_left
                              · show Act.put _ (some 67) _ = _
                                simp only [Act.put, List.setIfInBounds_toArray, List.set_cons_zero, List.set_cons_succ, i64_w, i32_w]
                                rfl
                              refine done_ (by kernel_rfl) ?_
                              have hcz51_0 : w50.cell? ⟨gb119, 0, none⟩ = some (.int .i64 ((rd_T26 l1 x57_2).f0)) := (blk_cell BK119.out 0).trans rfl
                              have hcz51_1 : w50.cell? ⟨gb119, 1, none⟩ = some (.int .i64 ((rd_T26 l1 x57_2).f1)) := (blk_cell BK119.out 1).trans rfl
                              have hcz51_2 : w50.cell? ⟨gb119, 2, none⟩ = some (.int .i64 ((rd_T26 l1 x57_2).f2)) := (blk_cell BK119.out 2).trans rfl
                              have hcz51_3 : w50.cell? ⟨gb119, 3, none⟩ = some (.int .i64 ((rd_T26 l1 x57_2).f3)) := (blk_cell BK119.out 3).trans rfl
                              have hfz51_0 := blk_frozen BK119.out 0
                              have hfz51_1 := blk_frozen BK119.out 1
                              have hfz51_2 := blk_frozen BK119.out 2
                              have hfz51_3 := blk_frozen BK119.out 3
                              try go_wp2
                              go_roundg k2
                              case measure => have := HK1.out; have := HK2.out; omega
                              case rel => exact ⟨(x57_2), (x12_2), (wrap64 (x57_2 + 1)), (by first | rfl | (simp; done) | (simp [*]; done)), (by first | rfl | (simp; done) | (simp [*]; done)), (by first | rfl | (simp; done) | (simp [*]; done)), H', ⟨by have := HK1.out; have := HK2.out; omega⟩, ⟨by repeat (first | (with_reducible first | exact HB.out | apply below_alloc | apply pw_below_drewN | apply below_drew1 | refine below_set ?_ GE119.out) | exact HB.out)⟩⟩
                          · replace c38 := Bool.eq_false_iff.mpr c38
                            subst c38
                            have H1 : (if ((rd_T26 l1 x57_2).f3) > x12_2 then (flotillaref12_Best.l2 k2 l1 x11_2 ((rd_T26 l1 x57_2).f3) l1 (l1.length : Int) (wrap64 (x57_2 + 1))) else (flotillaref12_Best.l2 k2 l1 x11_2 x12_2 l1 (l1.length : Int) (wrap64 (x57_2 + 1)))) = some (r1, r2, r3) := by rw [if_neg (show ¬ (false = true) by decide)] at H; exact H
                            clear H
                            have H := H1
                            clear H1
                            by_cases c52 : ((rd_T26 l1 x57_2).f3) > x12_2
                            · rw [if_pos c52] at H
                              have c52b0 : decide (x12_2 < ((rd_T26 l1 x57_2).f3)) = true := decide_eq_true c52
                              clear c52
                              have H' := Aside0.mk H
                              clear H
                              have p118 : 0 ≤ (x57_2 : Int) := of_decide_eq_true (by first | (with_reducible assumption) | assumption)
                              have q118 : x57_2 < (l1.length : Int) := of_decide_eq_true (by first | (with_reducible assumption) | assumption)
                              obtain ⟨ad118, e118, hx118_0, hx118_1, hx118_2, hx118_3⟩ := at_T26 HR1.out x57_2 p118 q118
                              obtain rfl : ad117 = ad118 := (by injection e118)
                              replace hx118_0 := (HB.out.cell (World.block_lt_of_cell? w _ hx118_0)).trans hx118_0
                              replace hx118_1 := (HB.out.cell (World.block_lt_of_cell? w _ hx118_1)).trans hx118_1
                              replace hx118_2 := (HB.out.cell (World.block_lt_of_cell? w _ hx118_2)).trans hx118_2
                              replace hx118_3 := (HB.out.cell (World.block_lt_of_cell? w _ hx118_3)).trans hx118_3
                              replace p118 := eq_true p118
                              replace q118 := eq_true q118
                              try go_wp2_with (first | ((with_reducible refine gate_dst (N := 14) rfl ?_); refine box_event ?hg (N := 14) ?hd (cs := #[.int .i64 0, .int .i64 0, .int .i64 0, .int .i64 0]) (t := 26) ?hr ?_; (case hd => rfl); (case hg => rfl); (case hr => first | (go_simp; done) | (go_simp; rfl)); intro gb119 hg w53 hbox hb; have n0_ := Aside0.mk (below_step (by repeat (first | (with_reducible first | exact HB.out | apply below_alloc | apply pw_below_drewN | apply below_drew1) | exact HB.out)) hb); have n1_ := Aside0.mk (hbox); have n2_ := Aside0.mk ((by rw [hg]; exact (below_size (by repeat (first | (with_reducible first | exact HB.out | apply below_alloc | apply pw_below_drewN | apply below_drew1) | exact HB.out))) : w.heap.size ≤ gb119)); have n3_ := Aside0.mk ((by rw [hg]; exact (below_size (by repeat (first | (with_reducible first | exact HB.out | apply below_alloc | apply pw_below_drewN | apply below_drew1) | exact HB.out))) : w.heap.size ≤ gb119)); clear HB; have HB := n0_; have BK119 := n1_; have GW119 := n2_; have GE119 := n3_; clear n0_ n1_ n2_ n3_; clear hb hbox hg; have hcz54_0 : w53.cell? ⟨gb119, 0, none⟩ = some (.int .i64 0) := (blk_cell BK119.out 0).trans rfl; have hcz54_1 : w53.cell? ⟨gb119, 1, none⟩ = some (.int .i64 0) := (blk_cell BK119.out 1).trans rfl; have hcz54_2 : w53.cell? ⟨gb119, 2, none⟩ = some (.int .i64 0) := (blk_cell BK119.out 2).trans rfl; have hcz54_3 : w53.cell? ⟨gb119, 3, none⟩ = some (.int .i64 0) := (blk_cell BK119.out 3).trans rfl; have hfz54_0 := blk_frozen BK119.out 0; have hfz54_1 := blk_frozen BK119.out 1; have hfz54_2 := blk_frozen BK119.out 2; have hfz54_3 := blk_frozen BK119.out 3))
                              have n0_ : Aside0 (((((w53.setCell ⟨gb119, 0, none⟩ (.int .i64 ((rd_T26 l1 x57_2).f0))).setCell ⟨gb119, 1, none⟩ (.int .i64 ((rd_T26 l1 x57_2).f1))).setCell ⟨gb119, 2, none⟩ (.int .i64 ((rd_T26 l1 x57_2).f2))).setCell ⟨gb119, 3, none⟩ (.int .i64 ((rd_T26 l1 x57_2).f3))).heap[gb119]? = some (.cells #[.int .i64 ((rd_T26 l1 x57_2).f0), .int .i64 ((rd_T26 l1 x57_2).f1), .int .i64 ((rd_T26 l1 x57_2).f2), .int .i64 ((rd_T26 l1 x57_2).f3)] 26 (0, 0))) := ⟨by (with_reducible repeat (first | refine blk_drewN ?_ _ | refine blk_drew ?_ | refine blk_alloc ?_ _)); refine blk_put (cs := #[.int .i64 ((rd_T26 l1 x57_2).f0), .int .i64 ((rd_T26 l1 x57_2).f1), .int .i64 ((rd_T26 l1 x57_2).f2), .int .i64 0]) ?_ 3 _ rfl; (with_reducible repeat (first | refine blk_drewN ?_ _ | refine blk_drew ?_ | refine blk_alloc ?_ _)); refine blk_put (cs := #[.int .i64 ((rd_T26 l1 x57_2).f0), .int .i64 ((rd_T26 l1 x57_2).f1), .int .i64 0, .int .i64 0]) ?_ 2 _ rfl; (with_reducible repeat (first | refine blk_drewN ?_ _ | refine blk_drew ?_ | refine blk_alloc ?_ _)); refine blk_put (cs := #[.int .i64 ((rd_T26 l1 x57_2).f0), .int .i64 0, .int .i64 0, .int .i64 0]) ?_ 1 _ rfl; (with_reducible repeat (first | refine blk_drewN ?_ _ | refine blk_drew ?_ | refine blk_alloc ?_ _)); refine blk_put (cs := #[.int .i64 0, .int .i64 0, .int .i64 0, .int .i64 0]) ?_ 0 _ rfl; (with_reducible repeat (first | refine blk_drewN ?_ _ | refine blk_drew ?_ | refine blk_alloc ?_ _)); exact BK119.out⟩
                              have n1_ : Aside0 (Below w.heap.size w ((((w53.setCell ⟨gb119, 0, none⟩ (.int .i64 ((rd_T26 l1 x57_2).f0))).setCell ⟨gb119, 1, none⟩ (.int .i64 ((rd_T26 l1 x57_2).f1))).setCell ⟨gb119, 2, none⟩ (.int .i64 ((rd_T26 l1 x57_2).f2))).setCell ⟨gb119, 3, none⟩ (.int .i64 ((rd_T26 l1 x57_2).f3)))) := ⟨by repeat (first | (with_reducible first | exact HB.out | apply below_alloc | apply pw_below_drewN | apply below_drew1 | refine below_set ?_ GE119.out) | exact HB.out)⟩
                              (try clear BK119)
                              (try clear HB)
                              generalize ((((w53.setCell ⟨gb119, 0, none⟩ (.int .i64 ((rd_T26 l1 x57_2).f0))).setCell ⟨gb119, 1, none⟩ (.int .i64 ((rd_T26 l1 x57_2).f1))).setCell ⟨gb119, 2, none⟩ (.int .i64 ((rd_T26 l1 x57_2).f2))).setCell ⟨gb119, 3, none⟩ (.int .i64 ((rd_T26 l1 x57_2).f3))) = w55 at n0_ n1_ ⊢
                              have BK119 := n0_
                              have HB := n1_
                              clear n0_ n1_
                              have n0_ := Aside0.mk (blk_drew BK119.out)
                              have n1_ := Aside0.mk (below_drew1 HB.out)
                              clear BK119
                              clear HB
                              have BK119 := n0_
                              have HB := n1_
                              clear n0_ n1_
                              have p120 : 0 ≤ (x11_2 : Int) := of_decide_eq_true (by first | (with_reducible assumption) | assumption)
                              have q120 : x11_2 < (l1.length : Int) := of_decide_eq_true (by first | (with_reducible assumption) | assumption)
                              obtain ⟨ad120, e120, hx120_0, hx120_1, hx120_2, hx120_3⟩ := at_T26 HR1.out x11_2 p120 q120
                              have hw120_3 := hx120_3
                              have hw120_2 := hx120_2
                              have hw120_1 := hx120_1
                              have hw120_0 := hx120_0
                              obtain rfl : ad117 = ad120 := (by injection e120)
                              replace hx120_0 := (HB.out.cell (World.block_lt_of_cell? w _ hx120_0)).trans hx120_0
                              replace hx120_1 := (HB.out.cell (World.block_lt_of_cell? w _ hx120_1)).trans hx120_1
                              replace hx120_2 := (HB.out.cell (World.block_lt_of_cell? w _ hx120_2)).trans hx120_2
                              replace hx120_3 := (HB.out.cell (World.block_lt_of_cell? w _ hx120_3)).trans hx120_3
                              replace p120 := eq_true p120
                              replace q120 := eq_true q120
                              refine start_ (n := 6) (S := fun w' => w'.cell? ⟨gb119, 0, none⟩ = some (.int .i64 ((rd_T26 l1 x57_2).f0)) ∧ w'.cell? ⟨gb119, 1, none⟩ = some (.int .i64 ((rd_T26 l1 x57_2).f1)) ∧ w'.cell? ⟨gb119, 2, none⟩ = some (.int .i64 ((rd_T26 l1 x57_2).f2)) ∧ w'.cell? ⟨gb119, 3, none⟩ = some (.int .i64 ((rd_T26 l1 x57_2).f3)) ∧ w'.cell? (ad117.add ((x11_2).toNat * 4)) = some (.int .i64 ((rd_T26 l1 x11_2).f0)) ∧ w'.cell? ⟨(ad117.add ((x11_2).toNat * 4)).block, (ad117.add ((x11_2).toNat * 4)).off + 1, none⟩ = some (.int .i64 ((rd_T26 l1 x11_2).f1)) ∧ w'.cell? ⟨(ad117.add ((x11_2).toNat * 4)).block, (ad117.add ((x11_2).toNat * 4)).off + 2, none⟩ = some (.int .i64 ((rd_T26 l1 x11_2).f2)) ∧ w'.cell? ⟨(ad117.add ((x11_2).toNat * 4)).block, (ad117.add ((x11_2).toNat * 4)).off + 3, none⟩ = some (.int .i64 ((rd_T26 l1 x11_2).f3))) (ds := []) #[false, false, false, false, false, false] (by kernel_rfl) rfl rfl ⟨(blk_cell BK119.out 0).trans rfl, (blk_cell BK119.out 1).trans rfl, (blk_cell BK119.out 2).trans rfl, (blk_cell BK119.out 3).trans rfl, ((HB.out.cell (World.block_lt_of_cell? w _ hw120_0)).trans hw120_0), ((HB.out.cell (World.block_lt_of_cell? w _ hw120_1)).trans hw120_1), ((HB.out.cell (World.block_lt_of_cell? w _ hw120_2)).trans hw120_2), ((HB.out.cell (World.block_lt_of_cell? w _ hw120_3)).trans hw120_3)⟩ (fun hHeld => ?_)
                              generalize w55.drew = w56 at BK119 HB hx120_0 hx120_1 hx120_2 hx120_3 hHeld ⊢
                              refine pure_ (i := 1) (N := some 63) (v := ?_) (a' := ?_) #[false, true, false, false, false, false] rfl rfl (by kernel_rfl) (fun _ _ _ h => h) (Or.inl ⟨by rfl, ?_⟩) ?_ ?_
                              rotate_left
                              · intro w'
                                go_simp
                                with_reducible rfl
                              rotate_left
                              · simp only [Act.put, List.setIfInBounds_toArray, List.set_cons_zero, List.set_cons_succ, i64_w, i32_w]
                                rfl
                              refine pure_ (i := 2) (N := some 64) (v := ?_) (a' := ?_) #[false, true, true, false, false, false] rfl rfl (by kernel_rfl) (fun _ _ _ h => h) (Or.inl ⟨by rfl, ?_⟩) ?_ ?_
                              rotate_left
                              · intro w'
                                go_simp
                                with_reducible rfl
                              rotate_left
                              · simp only [Act.put, List.setIfInBounds_toArray, List.set_cons_zero, List.set_cons_succ, i64_w, i32_w]
                                rfl
                              refine pure_ (i := 3) (N := some 65) (v := ?_) (a' := ?_) #[false, true, true, true, false, false] rfl rfl (by kernel_rfl) (fun _ _ _ h => h) (Or.inl ⟨by rfl, ?_⟩) ?_ ?_
                              rotate_left
                              · intro w'
                                go_simp
                                with_reducible rfl
                              rotate_left
                              · simp only [Act.put, List.setIfInBounds_toArray, List.set_cons_zero, List.set_cons_succ, i64_w, i32_w]
                                rfl
                              refine take_ (i := 0) (N := some 62) (v := ?_) (a' := ?_) #[true, true, true, true, false, false] rfl rfl (by kernel_rfl) (fun _ _ _ h => h) (Or.inl ⟨by rfl, ?_⟩) hHeld ?_ ?_
                              rotate_left
                              · rintro w' ⟨s0, s1, s2, s3, s4, s5, s6, s7⟩
                                go_simp
                                with_reducible rfl
                              rotate_left
                              · simp only [Act.put, List.setIfInBounds_toArray, List.set_cons_zero, List.set_cons_succ, i64_w, i32_w]
                                rfl
                              refine take_ (i := 4) (N := some 66) (v := ?_) (a' := ?_) #[true, true, true, true, true, false] rfl rfl (by kernel_rfl) (fun _ _ _ h => h) (Or.inl ⟨by rfl, ?_⟩) hHeld ?_ ?_
                              rotate_left
                              · rintro w' ⟨s0, s1, s2, s3, s4, s5, s6, s7⟩
                                go_simp
                                with_reducible rfl
                              rotate_left
                              · simp only [Act.put, List.setIfInBounds_toArray, List.set_cons_zero, List.set_cons_succ, i64_w, i32_w]
                                rfl
                              refine one_ (i := 5) (N := some 67) #[true, true, true, true, true, true] rfl rfl (by kernel_rfl) (by decide) (fun K hK => ?_)
                              refine goes_ Try.func73 (by kernel_rfl) rfl #[.agg #[.int .i64 ((rd_T26 l1 x57_2).f0), .int .i64 ((rd_T26 l1 x57_2).f1), .int .i64 ((rd_T26 l1 x57_2).f2), .int .i64 ((rd_T26 l1 x57_2).f3)], .agg #[.int .i64 ((rd_T26 l1 x11_2).f0), .int .i64 ((rd_T26 l1 x11_2).f1), .int .i64 ((rd_T26 l1 x11_2).f2), .int .i64 ((rd_T26 l1 x11_2).f3)]] (by rfl) rfl rfl (by (try simp only [List.map_toArray, List.map_cons, List.map_nil]); first | done | rfl | (simp only [List.length_drop, List.length_take]; rfl)) ?_
                              with_reducible refine (flotillaref12_ahead.calls ((rd_T26 l1 x57_2).f0) ((rd_T26 l1 x57_2).f1) ((rd_T26 l1 x57_2).f2) ((rd_T26 l1 x57_2).f3) ((rd_T26 l1 x11_2).f0) ((rd_T26 l1 x11_2).f1) ((rd_T26 l1 x11_2).f2) ((rd_T26 l1 x11_2).f3) false _ A37.out).mono ?_
                              rintro e w57 ⟨rfl, hb⟩
                              refine ⟨_, rfl, ?_⟩
                              have n0_ := Aside0.mk (blk_below (g := gb119) (o := .cells #[.int .i64 ((rd_T26 l1 x57_2).f0), .int .i64 ((rd_T26 l1 x57_2).f1), .int .i64 ((rd_T26 l1 x57_2).f2), .int .i64 ((rd_T26 l1 x57_2).f3)] 26 (0, 0)) (by (with_reducible repeat (first | refine blk_drewN ?_ _ | refine blk_drew ?_ | refine blk_alloc ?_ _)); exact BK119.out) hb)
                              have n1_ := Aside0.mk (below_step (by repeat (first | (with_reducible first | exact HB.out | apply below_alloc | apply pw_below_drewN | apply below_drew1 | refine below_set ?_ GE119.out) | exact HB.out)) hb)
                              clear BK119
                              clear HB
                              have BK119 := n0_
                              have HB := n1_
                              clear n0_ n1_
                              (try clear hb)
                              (try clear hb2)
                              (try clear hk)
                              (try clear hi)
                              refine hK.out _ _ ⟨(blk_cell BK119.out 0).trans rfl, (blk_cell BK119.out 1).trans rfl, (blk_cell BK119.out 2).trans rfl, (blk_cell BK119.out 3).trans rfl, ((HB.out.cell (World.block_lt_of_cell? w _ hw120_0)).trans hw120_0), ((HB.out.cell (World.block_lt_of_cell? w _ hw120_1)).trans hw120_1), ((HB.out.cell (World.block_lt_of_cell? w _ hw120_2)).trans hw120_2), ((HB.out.cell (World.block_lt_of_cell? w _ hw120_3)).trans hw120_3)⟩ (fun hHeld => ?_)
                              clear hK K
                              refine norm_ (a' := ?_) ?_ ?_
                              rotate_left
                              · show Act.put _ (some 67) _ = _
                                simp only [Act.put, List.setIfInBounds_toArray, List.set_cons_zero, List.set_cons_succ, i64_w, i32_w]
                                rfl
                              refine done_ (by kernel_rfl) ?_
                              have hcz58_0 : w57.cell? ⟨gb119, 0, none⟩ = some (.int .i64 ((rd_T26 l1 x57_2).f0)) := (blk_cell BK119.out 0).trans rfl
                              have hcz58_1 : w57.cell? ⟨gb119, 1, none⟩ = some (.int .i64 ((rd_T26 l1 x57_2).f1)) := (blk_cell BK119.out 1).trans rfl
                              have hcz58_2 : w57.cell? ⟨gb119, 2, none⟩ = some (.int .i64 ((rd_T26 l1 x57_2).f2)) := (blk_cell BK119.out 2).trans rfl
                              have hcz58_3 : w57.cell? ⟨gb119, 3, none⟩ = some (.int .i64 ((rd_T26 l1 x57_2).f3)) := (blk_cell BK119.out 3).trans rfl
                              have hfz58_0 := blk_frozen BK119.out 0
                              have hfz58_1 := blk_frozen BK119.out 1
                              have hfz58_2 := blk_frozen BK119.out 2
                              have hfz58_3 := blk_frozen BK119.out 3
                              try go_wp2
                              go_roundg k2
                              case measure => have := HK1.out; have := HK2.out; omega
                              case rel => exact ⟨(x11_2), ((rd_T26 l1 x57_2).f3), (wrap64 (x57_2 + 1)), (by first | rfl | (simp; done) | (simp [*]; done)), (by first | rfl | (simp; done) | (simp [*]; done)), (by first | rfl | (simp; done) | (simp [*]; done)), H', ⟨by have := HK1.out; have := HK2.out; omega⟩, ⟨by repeat (first | (with_reducible first | exact HB.out | apply below_alloc | apply pw_below_drewN | apply below_drew1 | refine below_set ?_ GE119.out) | exact HB.out)⟩⟩
                            · rw [if_neg c52] at H
                              have c52b0 : decide (x12_2 < ((rd_T26 l1 x57_2).f3)) = false := decide_eq_false c52
                              clear c52
                              have H' := Aside0.mk H
                              clear H
                              have p118 : 0 ≤ (x57_2 : Int) := of_decide_eq_true (by first | (with_reducible assumption) | assumption)
                              have q118 : x57_2 < (l1.length : Int) := of_decide_eq_true (by first | (with_reducible assumption) | assumption)
                              obtain ⟨ad118, e118, hx118_0, hx118_1, hx118_2, hx118_3⟩ := at_T26 HR1.out x57_2 p118 q118
                              obtain rfl : ad117 = ad118 := (by injection e118)
                              replace hx118_0 := (HB.out.cell (World.block_lt_of_cell? w _ hx118_0)).trans hx118_0
                              replace hx118_1 := (HB.out.cell (World.block_lt_of_cell? w _ hx118_1)).trans hx118_1
                              replace hx118_2 := (HB.out.cell (World.block_lt_of_cell? w _ hx118_2)).trans hx118_2
                              replace hx118_3 := (HB.out.cell (World.block_lt_of_cell? w _ hx118_3)).trans hx118_3
                              replace p118 := eq_true p118
                              replace q118 := eq_true q118
                              try go_wp2_with (first | ((with_reducible refine gate_dst (N := 14) rfl ?_); refine box_event ?hg (N := 14) ?hd (cs := #[.int .i64 0, .int .i64 0, .int .i64 0, .int .i64 0]) (t := 26) ?hr ?_; (case hd => rfl); (case hg => rfl); (case hr => first | (go_simp; done) | (go_simp; rfl)); intro gb119 hg w59 hbox hb; have n0_ := Aside0.mk (below_step (by repeat (first | (with_reducible first | exact HB.out | apply below_alloc | apply pw_below_drewN | apply below_drew1) | exact HB.out)) hb); have n1_ := Aside0.mk (hbox); have n2_ := Aside0.mk ((by rw [hg]; exact (below_size (by repeat (first | (with_reducible first | exact HB.out | apply below_alloc | apply pw_below_drewN | apply below_drew1) | exact HB.out))) : w.heap.size ≤ gb119)); have n3_ := Aside0.mk ((by rw [hg]; exact (below_size (by repeat (first | (with_reducible first | exact HB.out | apply below_alloc | apply pw_below_drewN | apply below_drew1) | exact HB.out))) : w.heap.size ≤ gb119)); clear HB; have HB := n0_; have BK119 := n1_; have GW119 := n2_; have GE119 := n3_; clear n0_ n1_ n2_ n3_; clear hb hbox hg; have hcz60_0 : w59.cell? ⟨gb119, 0, none⟩ = some (.int .i64 0) := (blk_cell BK119.out 0).trans rfl; have hcz60_1 : w59.cell? ⟨gb119, 1, none⟩ = some (.int .i64 0) := (blk_cell BK119.out 1).trans rfl; have hcz60_2 : w59.cell? ⟨gb119, 2, none⟩ = some (.int .i64 0) := (blk_cell BK119.out 2).trans rfl; have hcz60_3 : w59.cell? ⟨gb119, 3, none⟩ = some (.int .i64 0) := (blk_cell BK119.out 3).trans rfl; have hfz60_0 := blk_frozen BK119.out 0; have hfz60_1 := blk_frozen BK119.out 1; have hfz60_2 := blk_frozen BK119.out 2; have hfz60_3 := blk_frozen BK119.out 3))
                              have n0_ : Aside0 (((((w59.setCell ⟨gb119, 0, none⟩ (.int .i64 ((rd_T26 l1 x57_2).f0))).setCell ⟨gb119, 1, none⟩ (.int .i64 ((rd_T26 l1 x57_2).f1))).setCell ⟨gb119, 2, none⟩ (.int .i64 ((rd_T26 l1 x57_2).f2))).setCell ⟨gb119, 3, none⟩ (.int .i64 ((rd_T26 l1 x57_2).f3))).heap[gb119]? = some (.cells #[.int .i64 ((rd_T26 l1 x57_2).f0), .int .i64 ((rd_T26 l1 x57_2).f1), .int .i64 ((rd_T26 l1 x57_2).f2), .int .i64 ((rd_T26 l1 x57_2).f3)] 26 (0, 0))) := ⟨by (with_reducible repeat (first | refine blk_drewN ?_ _ | refine blk_drew ?_ | refine blk_alloc ?_ _)); refine blk_put (cs := #[.int .i64 ((rd_T26 l1 x57_2).f0), .int .i64 ((rd_T26 l1 x57_2).f1), .int .i64 ((rd_T26 l1 x57_2).f2), .int .i64 0]) ?_ 3 _ rfl; (with_reducible repeat (first | refine blk_drewN ?_ _ | refine blk_drew ?_ | refine blk_alloc ?_ _)); refine blk_put (cs := #[.int .i64 ((rd_T26 l1 x57_2).f0), .int .i64 ((rd_T26 l1 x57_2).f1), .int .i64 0, .int .i64 0]) ?_ 2 _ rfl; (with_reducible repeat (first | refine blk_drewN ?_ _ | refine blk_drew ?_ | refine blk_alloc ?_ _)); refine blk_put (cs := #[.int .i64 ((rd_T26 l1 x57_2).f0), .int .i64 0, .int .i64 0, .int .i64 0]) ?_ 1 _ rfl; (with_reducible repeat (first | refine blk_drewN ?_ _ | refine blk_drew ?_ | refine blk_alloc ?_ _)); refine blk_put (cs := #[.int .i64 0, .int .i64 0, .int .i64 0, .int .i64 0]) ?_ 0 _ rfl; (with_reducible repeat (first | refine blk_drewN ?_ _ | refine blk_drew ?_ | refine blk_alloc ?_ _)); exact BK119.out⟩
                              have n1_ : Aside0 (Below w.heap.size w ((((w59.setCell ⟨gb119, 0, none⟩ (.int .i64 ((rd_T26 l1 x57_2).f0))).setCell ⟨gb119, 1, none⟩ (.int .i64 ((rd_T26 l1 x57_2).f1))).setCell ⟨gb119, 2, none⟩ (.int .i64 ((rd_T26 l1 x57_2).f2))).setCell ⟨gb119, 3, none⟩ (.int .i64 ((rd_T26 l1 x57_2).f3)))) := ⟨by repeat (first | (with_reducible first | exact HB.out | apply below_alloc | apply pw_below_drewN | apply below_drew1 | refine below_set ?_ GE119.out) | exact HB.out)⟩
                              (try clear BK119)
                              (try clear HB)
                              generalize ((((w59.setCell ⟨gb119, 0, none⟩ (.int .i64 ((rd_T26 l1 x57_2).f0))).setCell ⟨gb119, 1, none⟩ (.int .i64 ((rd_T26 l1 x57_2).f1))).setCell ⟨gb119, 2, none⟩ (.int .i64 ((rd_T26 l1 x57_2).f2))).setCell ⟨gb119, 3, none⟩ (.int .i64 ((rd_T26 l1 x57_2).f3))) = w61 at n0_ n1_ ⊢
                              have BK119 := n0_
                              have HB := n1_
                              clear n0_ n1_
                              have n0_ := Aside0.mk (blk_drew BK119.out)
                              have n1_ := Aside0.mk (below_drew1 HB.out)
                              clear BK119
                              clear HB
                              have BK119 := n0_
                              have HB := n1_
                              clear n0_ n1_
                              have p120 : 0 ≤ (x11_2 : Int) := of_decide_eq_true (by first | (with_reducible assumption) | assumption)
                              have q120 : x11_2 < (l1.length : Int) := of_decide_eq_true (by first | (with_reducible assumption) | assumption)
                              obtain ⟨ad120, e120, hx120_0, hx120_1, hx120_2, hx120_3⟩ := at_T26 HR1.out x11_2 p120 q120
                              have hw120_3 := hx120_3
                              have hw120_2 := hx120_2
                              have hw120_1 := hx120_1
                              have hw120_0 := hx120_0
                              obtain rfl : ad117 = ad120 := (by injection e120)
                              replace hx120_0 := (HB.out.cell (World.block_lt_of_cell? w _ hx120_0)).trans hx120_0
                              replace hx120_1 := (HB.out.cell (World.block_lt_of_cell? w _ hx120_1)).trans hx120_1
                              replace hx120_2 := (HB.out.cell (World.block_lt_of_cell? w _ hx120_2)).trans hx120_2
                              replace hx120_3 := (HB.out.cell (World.block_lt_of_cell? w _ hx120_3)).trans hx120_3
                              replace p120 := eq_true p120
                              replace q120 := eq_true q120
                              refine start_ (n := 6) (S := fun w' => w'.cell? ⟨gb119, 0, none⟩ = some (.int .i64 ((rd_T26 l1 x57_2).f0)) ∧ w'.cell? ⟨gb119, 1, none⟩ = some (.int .i64 ((rd_T26 l1 x57_2).f1)) ∧ w'.cell? ⟨gb119, 2, none⟩ = some (.int .i64 ((rd_T26 l1 x57_2).f2)) ∧ w'.cell? ⟨gb119, 3, none⟩ = some (.int .i64 ((rd_T26 l1 x57_2).f3)) ∧ w'.cell? (ad117.add ((x11_2).toNat * 4)) = some (.int .i64 ((rd_T26 l1 x11_2).f0)) ∧ w'.cell? ⟨(ad117.add ((x11_2).toNat * 4)).block, (ad117.add ((x11_2).toNat * 4)).off + 1, none⟩ = some (.int .i64 ((rd_T26 l1 x11_2).f1)) ∧ w'.cell? ⟨(ad117.add ((x11_2).toNat * 4)).block, (ad117.add ((x11_2).toNat * 4)).off + 2, none⟩ = some (.int .i64 ((rd_T26 l1 x11_2).f2)) ∧ w'.cell? ⟨(ad117.add ((x11_2).toNat * 4)).block, (ad117.add ((x11_2).toNat * 4)).off + 3, none⟩ = some (.int .i64 ((rd_T26 l1 x11_2).f3))) (ds := []) #[false, false, false, false, false, false] (by kernel_rfl) rfl rfl ⟨(blk_cell BK119.out 0).trans rfl, (blk_cell BK119.out 1).trans rfl, (blk_cell BK119.out 2).trans rfl, (blk_cell BK119.out 3).trans rfl, ((HB.out.cell (World.block_lt_of_cell? w _ hw120_0)).trans hw120_0), ((HB.out.cell (World.block_lt_of_cell? w _ hw120_1)).trans hw120_1), ((HB.out.cell (World.block_lt_of_cell? w _ hw120_2)).trans hw120_2), ((HB.out.cell (World.block_lt_of_cell? w _ hw120_3)).trans hw120_3)⟩ (fun hHeld => ?_)
                              generalize w61.drew = w62 at BK119 HB hx120_0 hx120_1 hx120_2 hx120_3 hHeld ⊢
                              refine pure_ (i := 1) (N := some 63) (v := ?_) (a' := ?_) #[false, true, false, false, false, false] rfl rfl (by kernel_rfl) (fun _ _ _ h => h) (Or.inl ⟨by rfl, ?_⟩) ?_ ?_
                              rotate_left
                              · intro w'
                                go_simp
                                with_reducible rfl
                              rotate_left
                              · simp only [Act.put, List.setIfInBounds_toArray, List.set_cons_zero, List.set_cons_succ, i64_w, i32_w]
                                rfl
                              refine pure_ (i := 2) (N := some 64) (v := ?_) (a' := ?_) #[false, true, true, false, false, false] rfl rfl (by kernel_rfl) (fun _ _ _ h => h) (Or.inl ⟨by rfl, ?_⟩) ?_ ?_
                              rotate_left
                              · intro w'
                                go_simp
                                with_reducible rfl
                              rotate_left
                              · simp only [Act.put, List.setIfInBounds_toArray, List.set_cons_zero, List.set_cons_succ, i64_w, i32_w]
                                rfl
                              refine pure_ (i := 3) (N := some 65) (v := ?_) (a' := ?_) #[false, true, true, true, false, false] rfl rfl (by kernel_rfl) (fun _ _ _ h => h) (Or.inl ⟨by rfl, ?_⟩) ?_ ?_
                              rotate_left
                              · intro w'
                                go_simp
                                with_reducible rfl
                              rotate_left
                              · simp only [Act.put, List.setIfInBounds_toArray, List.set_cons_zero, List.set_cons_succ, i64_w, i32_w]
                                rfl
                              refine take_ (i := 0) (N := some 62) (v := ?_) (a' := ?_) #[true, true, true, true, false, false] rfl rfl (by kernel_rfl) (fun _ _ _ h => h) (Or.inl ⟨by rfl, ?_⟩) hHeld ?_ ?_
                              rotate_left
                              · rintro w' ⟨s0, s1, s2, s3, s4, s5, s6, s7⟩
                                go_simp
                                with_reducible rfl
                              rotate_left
                              · simp only [Act.put, List.setIfInBounds_toArray, List.set_cons_zero, List.set_cons_succ, i64_w, i32_w]
                                rfl
                              refine take_ (i := 4) (N := some 66) (v := ?_) (a' := ?_) #[true, true, true, true, true, false] rfl rfl (by kernel_rfl) (fun _ _ _ h => h) (Or.inl ⟨by rfl, ?_⟩) hHeld ?_ ?_
                              rotate_left
                              · rintro w' ⟨s0, s1, s2, s3, s4, s5, s6, s7⟩
                                go_simp
                                with_reducible rfl
                              rotate_left
                              · simp only [Act.put, List.setIfInBounds_toArray, List.set_cons_zero, List.set_cons_succ, i64_w, i32_w]
                                rfl
                              refine one_ (i := 5) (N := some 67) #[true, true, true, true, true, true] rfl rfl (by kernel_rfl) (by decide) (fun K hK => ?_)
                              refine goes_ Try.func73 (by kernel_rfl) rfl #[.agg #[.int .i64 ((rd_T26 l1 x57_2).f0), .int .i64 ((rd_T26 l1 x57_2).f1), .int .i64 ((rd_T26 l1 x57_2).f2), .int .i64 ((rd_T26 l1 x57_2).f3)], .agg #[.int .i64 ((rd_T26 l1 x11_2).f0), .int .i64 ((rd_T26 l1 x11_2).f1), .int .i64 ((rd_T26 l1 x11_2).f2), .int .i64 ((rd_T26 l1 x11_2).f3)]] (by rfl) rfl rfl (by (try simp only [List.map_toArray, List.map_cons, List.map_nil]); first | done | rfl | (simp only [List.length_drop, List.length_take]; rfl)) ?_
                              with_reducible refine (flotillaref12_ahead.calls ((rd_T26 l1 x57_2).f0) ((rd_T26 l1 x57_2).f1) ((rd_T26 l1 x57_2).f2) ((rd_T26 l1 x57_2).f3) ((rd_T26 l1 x11_2).f0) ((rd_T26 l1 x11_2).f1) ((rd_T26 l1 x11_2).f2) ((rd_T26 l1 x11_2).f3) false _ A37.out).mono ?_
                              rintro e w63 ⟨rfl, hb⟩
                              refine ⟨_, rfl, ?_⟩
                              have n0_ := Aside0.mk (blk_below (g := gb119) (o := .cells #[.int .i64 ((rd_T26 l1 x57_2).f0), .int .i64 ((rd_T26 l1 x57_2).f1), .int .i64 ((rd_T26 l1 x57_2).f2), .int .i64 ((rd_T26 l1 x57_2).f3)] 26 (0, 0)) (by (with_reducible repeat (first | refine blk_drewN ?_ _ | refine blk_drew ?_ | refine blk_alloc ?_ _)); exact BK119.out) hb)
                              have n1_ := Aside0.mk (below_step (by repeat (first | (with_reducible first | exact HB.out | apply below_alloc | apply pw_below_drewN | apply below_drew1 | refine below_set ?_ GE119.out) | exact HB.out)) hb)
                              clear BK119
                              clear HB
                              have BK119 := n0_
                              have HB := n1_
                              clear n0_ n1_
                              (try clear hb)
                              (try clear hb2)
                              (try clear hk)
                              (try clear hi)
                              refine hK.out _ _ ⟨(blk_cell BK119.out 0).trans rfl, (blk_cell BK119.out 1).trans rfl, (blk_cell BK119.out 2).trans rfl, (blk_cell BK119.out 3).trans rfl, ((HB.out.cell (World.block_lt_of_cell? w _ hw120_0)).trans hw120_0), ((HB.out.cell (World.block_lt_of_cell? w _ hw120_1)).trans hw120_1), ((HB.out.cell (World.block_lt_of_cell? w _ hw120_2)).trans hw120_2), ((HB.out.cell (World.block_lt_of_cell? w _ hw120_3)).trans hw120_3)⟩ (fun hHeld => ?_)
                              clear hK K
                              refine norm_ (a' := ?_) ?_ ?_
                              rotate_left
                              · show Act.put _ (some 67) _ = _
                                simp only [Act.put, List.setIfInBounds_toArray, List.set_cons_zero, List.set_cons_succ, i64_w, i32_w]
                                rfl
                              refine done_ (by kernel_rfl) ?_
                              have hcz64_0 : w63.cell? ⟨gb119, 0, none⟩ = some (.int .i64 ((rd_T26 l1 x57_2).f0)) := (blk_cell BK119.out 0).trans rfl
                              have hcz64_1 : w63.cell? ⟨gb119, 1, none⟩ = some (.int .i64 ((rd_T26 l1 x57_2).f1)) := (blk_cell BK119.out 1).trans rfl
                              have hcz64_2 : w63.cell? ⟨gb119, 2, none⟩ = some (.int .i64 ((rd_T26 l1 x57_2).f2)) := (blk_cell BK119.out 2).trans rfl
                              have hcz64_3 : w63.cell? ⟨gb119, 3, none⟩ = some (.int .i64 ((rd_T26 l1 x57_2).f3)) := (blk_cell BK119.out 3).trans rfl
                              have hfz64_0 := blk_frozen BK119.out 0
                              have hfz64_1 := blk_frozen BK119.out 1
                              have hfz64_2 := blk_frozen BK119.out 2
                              have hfz64_3 := blk_frozen BK119.out 3
                              try go_wp2
                              go_roundg k2
                              case measure => have := HK1.out; have := HK2.out; omega
                              case rel => exact ⟨(x11_2), (x12_2), (wrap64 (x57_2 + 1)), (by first | rfl | (simp; done) | (simp [*]; done)), (by first | rfl | (simp; done) | (simp [*]; done)), (by first | rfl | (simp; done) | (simp [*]; done)), H', ⟨by have := HK1.out; have := HK2.out; omega⟩, ⟨by repeat (first | (with_reducible first | exact HB.out | apply below_alloc | apply pw_below_drewN | apply below_drew1 | refine below_set ?_ GE119.out) | exact HB.out)⟩⟩
                        · rw [if_neg c36] at H
                          exact absurd H (by simp)
                      · rw [if_neg c35] at H
                        exact absurd H (by simp)
                    · rw [if_neg c34] at H
                      exact absurd H (by simp)
                  · rw [if_neg c33] at H
                    exact absurd H (by simp)
                · rw [if_neg c32] at H
                  have c32b0 : decide (x57_2 < (l1.length : Int)) = false := decide_eq_false c32
                  clear c32
                  simp only [Option.some.injEq, Prod.mk.injEq] at H
                  obtain ⟨rfl, rfl, rfl⟩ := H
                  go_wp2
                  go_ret3
                  exact ⟨by first | rfl | (simp [errW_none, errW_some] <;> rfl) | (simp [*, errW_none, errW_some] <;> rfl), by repeat (first | (with_reducible first | exact HB.out | apply below_alloc | apply pw_below_drewN | apply below_drew1) | exact HB.out)⟩
          · rw [if_neg c30] at H
            exact absurd H (by simp)
  · replace c4 := Bool.eq_false_iff.mpr c4
    subst c4
    have H1 : (some (0, 0, 120)) = some (r1, r2, r3) := by rw [if_neg (show ¬ (false = true) by decide)] at H; exact H
    clear H
    have H := H1
    clear H1
    simp only [Option.some.injEq, Prod.mk.injEq] at H
    obtain ⟨rfl, rfl, rfl⟩ := H
    go_enter Try.func45, Try.ntmps45
    go_wp2_with (first | ((with_reducible refine gate_callee (f := 72) rfl ?_); refine goesL_ (some 18) rfl rfl Try.func72 (by kernel_rfl) rfl #[.int .i64 a0, .int .i64 (l1.length : Int)] rfl (by (try simp only [List.map_toArray, List.map_cons, List.map_nil]); first | done | rfl | (simp only [List.length_drop, List.length_take]; rfl)) ?_; (with_reducible refine (flotillaref12_sized.calls a0 (l1.length : Int) false _ A3.out).mono ?_); rintro e w' ⟨rfl, ⟨nd, rfl⟩⟩; refine ⟨_, rfl, ?_⟩))
    go_ret3
    exact ⟨by first | rfl | (simp [errW_none, errW_some] <;> rfl) | (simp [*, errW_none, errW_some] <;> rfl), by repeat (first | (with_reducible first | exact HB.out | apply below_alloc | apply pw_below_drewN | apply below_drew1) | exact HB.out)⟩

end Go.Proofs.Ytkgamiojoekegab.PChooseBest
