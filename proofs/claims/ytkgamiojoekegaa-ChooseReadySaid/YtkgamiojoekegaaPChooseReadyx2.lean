-- PRINTED BY print.sh 35421559b90ae4d0a3588c463048766b98c2df88dd9212a6774a882060cdf62d: not written by this session
import Derived.Test.YtkgamiojoekegaaPChooseReadyx0
import Derived.Test.YtkgamiojoekegaaPChooseReadyx1
namespace Go.Proofs.Ytkgamiojoekegaa.PChooseReady
open Go.RowKit Go.Proofs.YtkgamiojoekegaaW.PrintWords Go.Proofs.YtkgamiojoekegaaW.PrintLast Go.Proofs.YtkgamiojoekegaaW.PrintMore
attribute [local go_sem] max2_int min2_int max_two min_two max_three min_three max_four min_four   -- for this text's walks alone
set_option linter.unusedVariables false
set_option linter.unusedSimpArgs false

/-! ### flotillaref12_Ready: function 13 -/
mutual
def flotillaref12_Ready.j0 : Nat → Int → Int → Int → List (S27) → Bool → Option (Int × Bool × Int)
  | 0, _, _, _, _, _ => none
  | k + 1, x0, x1, x2, x3, x29 => if x29 = true then (some (0, false, 121)) else (if 0 < (x3.length : Int) then (flotillaref12_Ready.l0 k x0 x1 x2 x3 ((rd_T27 x3 0).f1) x3 (x3.length : Int) 0) else (none))
def flotillaref12_Ready.l0 : Nat → Int → Int → Int → List (S27) → Int → List (S27) → Int → Int → Option (Int × Bool × Int)
  | 0, _, _, _, _, _, _, _, _ => none
  | k + 1, x0, x1, x2, x3, x11, x34, x35, x36 => if x36 < x35 then (if 0 ≤ x36 then (if x36 < (x34.length : Int) then (if ((rd_T27 x34 x36).f0) < 0 then (flotillaref12_Ready.j2 k x0 x1 x2 x3 x11 x36 x34 x35 x36 true ((rd_T27 x34 x36).f0) ((rd_T27 x34 x36).f1) ((rd_T27 x34 x36).f2)) else (if ((rd_T27 x34 x36).f0) ≥ x0 then (flotillaref12_Ready.j2 k x0 x1 x2 x3 x11 x36 x34 x35 x36 true ((rd_T27 x34 x36).f0) ((rd_T27 x34 x36).f1) ((rd_T27 x34 x36).f2)) else (flotillaref12_Ready.j2 k x0 x1 x2 x3 x11 x36 x34 x35 x36 (((rd_T27 x34 x36).f0) == x1) ((rd_T27 x34 x36).f0) ((rd_T27 x34 x36).f1) ((rd_T27 x34 x36).f2)))) else (none)) else (none)) else (if (x3.length : Int) < (wrap64 ((wrap64 (Int.tdiv (wrap64 (x0 - 1)) 2)) + 1)) then (flotillaref12_Ready.j4 k x0 x3 x11 true) else (if x11 < 0 then (flotillaref12_Ready.j4 k x0 x3 x11 true) else (flotillaref12_Ready.j4 k x0 x3 x11 (decide (x11 < x2)))))
def flotillaref12_Ready.j2 : Nat → Int → Int → Int → List (S27) → Int → Int → List (S27) → Int → Int → Bool → Int → Int → Bool → Option (Int × Bool × Int)
  | 0, _, _, _, _, _, _, _, _, _, _, _, _, _ => none
  | k + 1, x0, x1, x2, x3, x11, x12, x34, x35, x36, x55, x111000, x111001, x111002 => if x55 = true then (some (0, false, 121)) else (if 0 ≤ x12 then (if x12 ≤ (x3.length : Int) then ((some (x3.take (x12 : Int).toNat : List (S27))).bind fun y111 => (flotillaref12_Ready.l1 k x0 x1 x2 x3 x11 x34 x35 x36 y111 (y111.length : Int) 0 x111000 x111001 x111002)) else (none)) else (none))
def flotillaref12_Ready.l1 : Nat → Int → Int → Int → List (S27) → Int → List (S27) → Int → Int → List (S27) → Int → Int → Int → Int → Bool → Option (Int × Bool × Int)
  | 0, _, _, _, _, _, _, _, _, _, _, _, _, _, _ => none
  | k + 1, x0, x1, x2, x3, x11, x34, x35, x36, x58, x59, x60, x111000, x111001, x111002 => if x60 < x59 then (if 0 ≤ x60 then (if x60 < (x58.length : Int) then (if ((rd_T27 x58 x60).f0) = x111000 then (some (0, false, 121)) else (flotillaref12_Ready.l1 k x0 x1 x2 x3 x11 x34 x35 x36 x58 x59 (wrap64 (x60 + 1)) x111000 x111001 x111002)) else (none)) else (none)) else (if x111001 > x11 then (flotillaref12_Ready.l0 k x0 x1 x2 x3 x111001 x34 x35 (wrap64 (x36 + 1))) else (flotillaref12_Ready.l0 k x0 x1 x2 x3 x11 x34 x35 (wrap64 (x36 + 1))))
def flotillaref12_Ready.j4 : Nat → Int → List (S27) → Int → Bool → Option (Int × Bool × Int)
  | 0, _, _, _, _ => none
  | k + 1, x0, x3, x11, x92 => if x92 = true then (some (0, false, 0)) else (flotillaref12_Ready.l2 k x0 x11 x3 (x3.length : Int) 0)
def flotillaref12_Ready.l2 : Nat → Int → Int → List (S27) → Int → Int → Option (Int × Bool × Int)
  | 0, _, _, _, _, _ => none
  | k + 1, x0, x11, x93, x94, x95 => if x95 < x94 then (if 0 ≤ x95 then (if x95 < (x93.length : Int) then (if x0 = 0 then (none) else (if ((rd_T27 x93 x95).f0) = (Int.tmod x11 x0) then (if ((rd_T27 x93 x95).f1) = x11 then (if (rd_T27 x93 x95).f2 = true then (some (x95, true, 0)) else (flotillaref12_Ready.l2 k x0 x11 x93 x94 (wrap64 (x95 + 1)))) else (flotillaref12_Ready.l2 k x0 x11 x93 x94 (wrap64 (x95 + 1)))) else (flotillaref12_Ready.l2 k x0 x11 x93 x94 (wrap64 (x95 + 1))))) else (none)) else (none)) else (some (0, false, 0))
end
def flotillaref12_Ready.f (k : Nat) (a0 : Int) (a1 : Int) (a2 : Int) (l3 : List (S27)) : Option (Int × Bool × Int) := (flotillaref12_sized.f a0 (l3.length : Int)).bind fun t107 => (if t107 = true then (if a1 < 0 then (flotillaref12_Ready.j0 k a0 a1 a2 l3 true) else (flotillaref12_Ready.j0 k a0 a1 a2 l3 (decide (a1 ≥ a0)))) else (some (0, false, 120)))
theorem flotillaref12_Ready.mono_l : ∀ k, (∀ y0 y1 y2 y3 y4, LeO (flotillaref12_Ready.j0 k y0 y1 y2 y3 y4) (flotillaref12_Ready.j0 (k + 1) y0 y1 y2 y3 y4)) ∧ (∀ y0 y1 y2 y3 y4 y5 y6 y7, LeO (flotillaref12_Ready.l0 k y0 y1 y2 y3 y4 y5 y6 y7) (flotillaref12_Ready.l0 (k + 1) y0 y1 y2 y3 y4 y5 y6 y7)) ∧ (∀ y0 y1 y2 y3 y4 y5 y6 y7 y8 y9 y10 y11 y12, LeO (flotillaref12_Ready.j2 k y0 y1 y2 y3 y4 y5 y6 y7 y8 y9 y10 y11 y12) (flotillaref12_Ready.j2 (k + 1) y0 y1 y2 y3 y4 y5 y6 y7 y8 y9 y10 y11 y12)) ∧ (∀ y0 y1 y2 y3 y4 y5 y6 y7 y8 y9 y10 y11 y12 y13, LeO (flotillaref12_Ready.l1 k y0 y1 y2 y3 y4 y5 y6 y7 y8 y9 y10 y11 y12 y13) (flotillaref12_Ready.l1 (k + 1) y0 y1 y2 y3 y4 y5 y6 y7 y8 y9 y10 y11 y12 y13)) ∧ (∀ y0 y1 y2 y3, LeO (flotillaref12_Ready.j4 k y0 y1 y2 y3) (flotillaref12_Ready.j4 (k + 1) y0 y1 y2 y3)) ∧ (∀ y0 y1 y2 y3 y4, LeO (flotillaref12_Ready.l2 k y0 y1 y2 y3 y4) (flotillaref12_Ready.l2 (k + 1) y0 y1 y2 y3 y4))
  | 0 => ⟨fun _ _ _ _ _ r h => by simp [flotillaref12_Ready.j0] at h, fun _ _ _ _ _ _ _ _ r h => by simp [flotillaref12_Ready.l0] at h, fun _ _ _ _ _ _ _ _ _ _ _ _ _ r h => by simp [flotillaref12_Ready.j2] at h, fun _ _ _ _ _ _ _ _ _ _ _ _ _ _ r h => by simp [flotillaref12_Ready.l1] at h, fun _ _ _ _ r h => by simp [flotillaref12_Ready.j4] at h, fun _ _ _ _ _ r h => by simp [flotillaref12_Ready.l2] at h⟩
  | k + 1 => by
    obtain ⟨ih0, ih1, ih2, ih3, ih4, ih5⟩ := flotillaref12_Ready.mono_l k
    refine ⟨?_, ?_, ?_, ?_, ?_, ?_⟩
    · intro y0 y1 y2 y3 y4
      unfold flotillaref12_Ready.j0
      repeat' first
      | (with_reducible exact ih0 _ _ _ _ _)
      | (with_reducible exact ih1 _ _ _ _ _ _ _ _)
      | (with_reducible exact ih2 _ _ _ _ _ _ _ _ _ _ _ _ _)
      | (with_reducible exact ih3 _ _ _ _ _ _ _ _ _ _ _ _ _ _)
      | (with_reducible exact ih4 _ _ _ _)
      | (with_reducible exact ih5 _ _ _ _ _)
      | (with_reducible exact LeO.refl _)
      | (with_reducible exact LeO.none _)
      | (with_reducible refine LeO.ite ?_ ?_)
      | (with_reducible refine LeO.bind ?_ (fun _ => ?_))
      | exact ih0 _ _ _ _ _
      | exact ih1 _ _ _ _ _ _ _ _
      | exact ih2 _ _ _ _ _ _ _ _ _ _ _ _ _
      | exact ih3 _ _ _ _ _ _ _ _ _ _ _ _ _ _
      | exact ih4 _ _ _ _
      | exact ih5 _ _ _ _ _
      | exact LeO.none _
      | refine LeO.ite ?_ ?_
      | refine LeO.bind ?_ (fun _ => ?_)
    · intro y0 y1 y2 y3 y4 y5 y6 y7
      unfold flotillaref12_Ready.l0
      repeat' first
      | (with_reducible exact ih0 _ _ _ _ _)
      | (with_reducible exact ih1 _ _ _ _ _ _ _ _)
      | (with_reducible exact ih2 _ _ _ _ _ _ _ _ _ _ _ _ _)
      | (with_reducible exact ih3 _ _ _ _ _ _ _ _ _ _ _ _ _ _)
      | (with_reducible exact ih4 _ _ _ _)
      | (with_reducible exact ih5 _ _ _ _ _)
      | (with_reducible exact LeO.refl _)
      | (with_reducible exact LeO.none _)
      | (with_reducible refine LeO.ite ?_ ?_)
      | (with_reducible refine LeO.bind ?_ (fun _ => ?_))
      | exact ih0 _ _ _ _ _
      | exact ih1 _ _ _ _ _ _ _ _
      | exact ih2 _ _ _ _ _ _ _ _ _ _ _ _ _
      | exact ih3 _ _ _ _ _ _ _ _ _ _ _ _ _ _
      | exact ih4 _ _ _ _
      | exact ih5 _ _ _ _ _
      | exact LeO.none _
      | refine LeO.ite ?_ ?_
      | refine LeO.bind ?_ (fun _ => ?_)
    · intro y0 y1 y2 y3 y4 y5 y6 y7 y8 y9 y10 y11 y12
      unfold flotillaref12_Ready.j2
      repeat' first
      | (with_reducible exact ih0 _ _ _ _ _)
      | (with_reducible exact ih1 _ _ _ _ _ _ _ _)
      | (with_reducible exact ih2 _ _ _ _ _ _ _ _ _ _ _ _ _)
      | (with_reducible exact ih3 _ _ _ _ _ _ _ _ _ _ _ _ _ _)
      | (with_reducible exact ih4 _ _ _ _)
      | (with_reducible exact ih5 _ _ _ _ _)
      | (with_reducible exact LeO.refl _)
      | (with_reducible exact LeO.none _)
      | (with_reducible refine LeO.ite ?_ ?_)
      | (with_reducible refine LeO.bind ?_ (fun _ => ?_))
      | exact ih0 _ _ _ _ _
      | exact ih1 _ _ _ _ _ _ _ _
      | exact ih2 _ _ _ _ _ _ _ _ _ _ _ _ _
      | exact ih3 _ _ _ _ _ _ _ _ _ _ _ _ _ _
      | exact ih4 _ _ _ _
      | exact ih5 _ _ _ _ _
      | exact LeO.none _
      | refine LeO.ite ?_ ?_
      | refine LeO.bind ?_ (fun _ => ?_)
    · intro y0 y1 y2 y3 y4 y5 y6 y7 y8 y9 y10 y11 y12 y13
      unfold flotillaref12_Ready.l1
      repeat' first
      | (with_reducible exact ih0 _ _ _ _ _)
      | (with_reducible exact ih1 _ _ _ _ _ _ _ _)
      | (with_reducible exact ih2 _ _ _ _ _ _ _ _ _ _ _ _ _)
      | (with_reducible exact ih3 _ _ _ _ _ _ _ _ _ _ _ _ _ _)
      | (with_reducible exact ih4 _ _ _ _)
      | (with_reducible exact ih5 _ _ _ _ _)
      | (with_reducible exact LeO.refl _)
      | (with_reducible exact LeO.none _)
      | (with_reducible refine LeO.ite ?_ ?_)
      | (with_reducible refine LeO.bind ?_ (fun _ => ?_))
      | exact ih0 _ _ _ _ _
      | exact ih1 _ _ _ _ _ _ _ _
      | exact ih2 _ _ _ _ _ _ _ _ _ _ _ _ _
      | exact ih3 _ _ _ _ _ _ _ _ _ _ _ _ _ _
      | exact ih4 _ _ _ _
      | exact ih5 _ _ _ _ _
      | exact LeO.none _
      | refine LeO.ite ?_ ?_
      | refine LeO.bind ?_ (fun _ => ?_)
    · intro y0 y1 y2 y3
      unfold flotillaref12_Ready.j4
      repeat' first
      | (with_reducible exact ih0 _ _ _ _ _)
      | (with_reducible exact ih1 _ _ _ _ _ _ _ _)
      | (with_reducible exact ih2 _ _ _ _ _ _ _ _ _ _ _ _ _)
      | (with_reducible exact ih3 _ _ _ _ _ _ _ _ _ _ _ _ _ _)
      | (with_reducible exact ih4 _ _ _ _)
      | (with_reducible exact ih5 _ _ _ _ _)
      | (with_reducible exact LeO.refl _)
      | (with_reducible exact LeO.none _)
      | (with_reducible refine LeO.ite ?_ ?_)
      | (with_reducible refine LeO.bind ?_ (fun _ => ?_))
      | exact ih0 _ _ _ _ _
      | exact ih1 _ _ _ _ _ _ _ _
      | exact ih2 _ _ _ _ _ _ _ _ _ _ _ _ _
      | exact ih3 _ _ _ _ _ _ _ _ _ _ _ _ _ _
      | exact ih4 _ _ _ _
      | exact ih5 _ _ _ _ _
      | exact LeO.none _
      | refine LeO.ite ?_ ?_
      | refine LeO.bind ?_ (fun _ => ?_)
    · intro y0 y1 y2 y3 y4
      unfold flotillaref12_Ready.l2
      repeat' first
      | (with_reducible exact ih0 _ _ _ _ _)
      | (with_reducible exact ih1 _ _ _ _ _ _ _ _)
      | (with_reducible exact ih2 _ _ _ _ _ _ _ _ _ _ _ _ _)
      | (with_reducible exact ih3 _ _ _ _ _ _ _ _ _ _ _ _ _ _)
      | (with_reducible exact ih4 _ _ _ _)
      | (with_reducible exact ih5 _ _ _ _ _)
      | (with_reducible exact LeO.refl _)
      | (with_reducible exact LeO.none _)
      | (with_reducible refine LeO.ite ?_ ?_)
      | (with_reducible refine LeO.bind ?_ (fun _ => ?_))
      | exact ih0 _ _ _ _ _
      | exact ih1 _ _ _ _ _ _ _ _
      | exact ih2 _ _ _ _ _ _ _ _ _ _ _ _ _
      | exact ih3 _ _ _ _ _ _ _ _ _ _ _ _ _ _
      | exact ih4 _ _ _ _
      | exact ih5 _ _ _ _ _
      | exact LeO.none _
      | refine LeO.ite ?_ ?_
      | refine LeO.bind ?_ (fun _ => ?_)
theorem flotillaref12_Ready.mono : ∀ a0 a1 a2 a3 k, LeO (flotillaref12_Ready.f k a0 a1 a2 a3) (flotillaref12_Ready.f (k + 1) a0 a1 a2 a3) := by
  intro a0 a1 a2 a3 k
  obtain ⟨ih0, ih1, ih2, ih3, ih4, ih5⟩ := flotillaref12_Ready.mono_l k
  unfold flotillaref12_Ready.f
  repeat' first
      | (with_reducible exact ih0 _ _ _ _ _)
      | (with_reducible exact ih1 _ _ _ _ _ _ _ _)
      | (with_reducible exact ih2 _ _ _ _ _ _ _ _ _ _ _ _ _)
      | (with_reducible exact ih3 _ _ _ _ _ _ _ _ _ _ _ _ _ _)
      | (with_reducible exact ih4 _ _ _ _)
      | (with_reducible exact ih5 _ _ _ _ _)
      | (with_reducible exact LeO.refl _)
      | (with_reducible exact LeO.none _)
      | (with_reducible refine LeO.ite ?_ ?_)
      | (with_reducible refine LeO.bind ?_ (fun _ => ?_))
      | exact ih0 _ _ _ _ _
      | exact ih1 _ _ _ _ _ _ _ _
      | exact ih2 _ _ _ _ _ _ _ _ _ _ _ _ _
      | exact ih3 _ _ _ _ _ _ _ _ _ _ _ _ _ _
      | exact ih4 _ _ _ _
      | exact ih5 _ _ _ _ _
      | exact LeO.none _
      | refine LeO.ite ?_ ?_
      | refine LeO.bind ?_ (fun _ => ?_)
set_option maxHeartbeats 8000000 in
set_option maxRecDepth 100000 in
theorem flotillaref12_Ready.calls (k : Nat) (a0 : Int) (a1 : Int) (a2 : Int) (A3 : Option Addr) (c3 : Nat) (l3 : List (S27)) (r1 : Int) (r2 : Bool) (r3 : Int) (w : World) (hr3 : Kd.C k27 w A3 l3.length l3) (hc3 : l3.length ≤ c3) (h : flotillaref12_Ready.f k a0 a1 a2 l3 = some (r1, r2, r3)) :
    Calls Try.prog 13 #[.int .i64 a0, .int .i64 a1, .int .i64 a2, .slice A3 l3.length c3] w fun e w' => e = .returned (.tuple #[.int .i64 r1, .bool r2, .int .i64 r3]) ∧ Below w.heap.size w w' := by
  have hu27 := Try.underlying27
  have HR3 := Aside0.mk hr3
  have HC3 := Aside0.mk hc3
  clear hr3 hc3
  have HB := Aside0.mk (Below.refl w.heap.size w)
  have H : ((flotillaref12_sized.f a0 (l3.length : Int)).bind fun t107 => (if t107 = true then (if a1 < 0 then (flotillaref12_Ready.j0 k a0 a1 a2 l3 true) else (flotillaref12_Ready.j0 k a0 a1 a2 l3 (decide (a1 ≥ a0)))) else (some (0, false, 120)))) = some (r1, r2, r3) := h
  clear h
  replace H := Option.bind_eq_some_iff.mp H
  obtain ⟨t107, A50, H⟩ := H
  replace H : (if t107 = true then (if a1 < 0 then (flotillaref12_Ready.j0 k a0 a1 a2 l3 true) else (flotillaref12_Ready.j0 k a0 a1 a2 l3 (decide (a1 ≥ a0)))) else (some (0, false, 120))) = some (r1, r2, r3) := H
  have A5 := Aside0.mk A50
  clear A50
  by_cases c6 : t107 = true
  · subst c6
    have H1 : (if a1 < 0 then (flotillaref12_Ready.j0 k a0 a1 a2 l3 true) else (flotillaref12_Ready.j0 k a0 a1 a2 l3 (decide (a1 ≥ a0)))) = some (r1, r2, r3) := by rw [if_pos rfl] at H; exact H
    clear H
    have H := H1
    clear H1
    have HC7 := Aside0.mk H
    clear H
    go_enter Try.func13, Try.ntmps13
    go_upto_region 3 with (first | (go_at_call 20; (with_reducible refine (flotillaref12_sized.calls a0 (l3.length : Int) true _ A5.out).mono ?_); rintro e w' ⟨rfl, ⟨nd, rfl⟩⟩; (try first | exact ⟨rfl, _, World.drewN_drewN _ _ _⟩ | exact ⟨rfl, _, Eq.trans (World.drewN_drewN _ _ _) (congrArg (World.drewN _) (Nat.add_assoc _ _ _))⟩)))
    repeat (go_quiet (first | (go_at_call 20; (with_reducible refine (flotillaref12_sized.calls a0 (l3.length : Int) true _ A5.out).mono ?_); rintro e w' ⟨rfl, ⟨nd, rfl⟩⟩; (try first | exact ⟨rfl, _, World.drewN_drewN _ _ _⟩ | exact ⟨rfl, _, Eq.trans (World.drewN_drewN _ _ _) (congrArg (World.drewN _) (Nat.add_assoc _ _ _))⟩))); go_upto_region 3 with (first | (go_at_call 20; (with_reducible refine (flotillaref12_sized.calls a0 (l3.length : Int) true _ A5.out).mono ?_); rintro e w' ⟨rfl, ⟨nd, rfl⟩⟩; (try first | exact ⟨rfl, _, World.drewN_drewN _ _ _⟩ | exact ⟨rfl, _, Eq.trans (World.drewN_drewN _ _ _) (congrArg (World.drewN _) (Nat.add_assoc _ _ _))⟩))))
    (try simp only [Act.put, List.setIfInBounds_toArray, List.set_cons_zero, List.set_cons_succ])
    go_cut [29] (fun v29 wc => ∃ (kq : Nat) (x29_6 : Bool), v29 = .bool x29_6 ∧ Aside0 (flotillaref12_Ready.j0 kq a0 a1 a2 l3 x29_6 = some (r1, r2, r3)) ∧ Aside0 (kq ≤ k) ∧ Aside0 (Below w.heap.size w wc))
    case first =>
      have H := HC7.out
      clear HC7
      by_cases c8 : a1 < 0
      · rw [if_pos c8] at H
        have c8b0 : decide (a1 < 0) = true := decide_eq_true c8
        clear c8
        (first | rw [c8b0] | (simp only [i64_w, i32_w]; rw [c8b0]) | skip)
        have H' := Aside0.mk H
        clear H
        go_wp2
        repeat (go_quiet (fail); try go_wp2)
        go_meet
        case rel => exact ⟨_, (true), (by first | rfl | (simp; done) | (simp [*]; done)), H', ⟨by first | omega | exact Nat.le_refl _⟩, ⟨by repeat (first | (with_reducible first | exact HB.out | apply below_alloc | apply pw_below_drewN | apply below_drew1) | exact HB.out)⟩⟩
      · rw [if_neg c8] at H
        have c8b0 : decide (a1 < 0) = false := decide_eq_false c8
        clear c8
        (first | rw [c8b0] | (simp only [i64_w, i32_w]; rw [c8b0]) | skip)
        have H' := Aside0.mk H
        clear H
        go_wp2
        repeat (go_quiet (fail); try go_wp2)
        go_meet
        case rel => exact ⟨_, (decide (a1 ≥ a0)), (by first | rfl | (simp; done) | (simp [*]; done)), H', ⟨by first | omega | exact Nat.le_refl _⟩, ⟨by repeat (first | (with_reducible first | exact HB.out | apply below_alloc | apply pw_below_drewN | apply below_drew1) | exact HB.out)⟩⟩
    case rest =>
      clear HC7
      try clear c1
      try clear p2
      try clear c3
      try clear c6
      try clear c8
      try clear c8b0
      obtain ⟨kq, x29_6, rfl, HA, HJ6, HB⟩ := hcut
      cases kq with
      | zero => exact absurd HA.out (by simp [flotillaref12_Ready.j0])
      | succ kj6 =>
        have H := HA.out
        clear HA
        simp only [flotillaref12_Ready.j0] at H
        by_cases c9 : x29_6 = true
        · subst c9
          have H1 : (some (0, false, 121)) = some (r1, r2, r3) := by rw [if_pos rfl] at H; exact H
          clear H
          have H := H1
          clear H1
          simp only [Option.some.injEq, Prod.mk.injEq] at H
          obtain ⟨rfl, rfl, rfl⟩ := H
          go_wp2
          repeat (go_quiet (fail); try go_wp2)
          go_ret3
          exact ⟨by first | rfl | (simp [errW_none, errW_some] <;> rfl) | (simp [*, errW_none, errW_some] <;> rfl), by repeat (first | (with_reducible first | exact HB.out | apply below_alloc | apply pw_below_drewN | apply below_drew1) | exact HB.out)⟩
        · replace c9 := Bool.eq_false_iff.mpr c9
          subst c9
          have H1 : (if 0 < (l3.length : Int) then (flotillaref12_Ready.l0 kj6 a0 a1 a2 l3 ((rd_T27 l3 0).f1) l3 (l3.length : Int) 0) else (none)) = some (r1, r2, r3) := by rw [if_neg (show ¬ (false = true) by decide)] at H; exact H
          clear H
          have H := H1
          clear H1
          by_cases c10 : 0 < (l3.length : Int)
          · rw [if_pos c10] at H
            have c10b0 : decide (0 < (l3.length : Int)) = true := decide_eq_true c10
            have c10b1 : decide (0 < l3.length) = true := decide_eq_true (by omega)
            clear c10
            have H' := Aside0.mk H
            clear H
            have p108 : 0 ≤ (0 : Int) := (by omega)
            have q108 : 0 < (l3.length : Int) := of_decide_eq_true (by first | (with_reducible assumption) | assumption)
            obtain ⟨ad108, e108, hx108_0, hx108_1, hx108_2⟩ := at_T27 HR3.out 0 p108 q108
            cases e108
            have qi108 : (0 < l3.length) = True := eq_true (by omega)
            (try rw [show ((0 : Int)).toNat = 0 from rfl] at hx108_0)
            (try rw [show 0 * 3 = 0 from rfl] at hx108_0)
            (try rw [Addr.add_zero'] at hx108_0)
            (try rw [show ((0 : Int)).toNat = 0 from rfl] at hx108_1)
            (try rw [show 0 * 3 = 0 from rfl] at hx108_1)
            (try rw [Addr.add_zero'] at hx108_1)
            (try rw [show ((0 : Int)).toNat = 0 from rfl] at hx108_2)
            (try rw [show 0 * 3 = 0 from rfl] at hx108_2)
            (try rw [Addr.add_zero'] at hx108_2)
            replace hx108_0 := (HB.out.cell (World.block_lt_of_cell? w _ hx108_0)).trans hx108_0
            replace hx108_1 := (HB.out.cell (World.block_lt_of_cell? w _ hx108_1)).trans hx108_1
            replace hx108_2 := (HB.out.cell (World.block_lt_of_cell? w _ hx108_2)).trans hx108_2
            replace p108 := eq_true p108
            replace q108 := eq_true q108
            go_wp2
            repeat (go_quiet (fail); try go_wp2)
            go_loopg [11, 36] kj6 (fun kq v11 v36 w' => ∃ (x11_2 : Int) (x36_2 : Int), v11 = .int .i64 x11_2 ∧ v36 = .int .i64 x36_2 ∧ Aside0 (flotillaref12_Ready.l0 kq a0 a1 a2 l3 x11_2 l3 (l3.length : Int) x36_2 = some (r1, r2, r3)) ∧ Aside0 (kq ≤ kj6) ∧ Aside0 (Below w.heap.size w w'))
            case atStart => exact ⟨((rd_T27 l3 0).f1), (0), (by first | rfl | (simp; done) | (simp [*]; done)), (by first | rfl | (simp; done) | (simp [*]; done)), H', ⟨Nat.le_refl _⟩, ⟨by repeat (first | (with_reducible first | exact HB.out | apply below_alloc | apply pw_below_drewN | apply below_drew1) | exact HB.out)⟩⟩
            case round =>
              clear H'
              try clear c1
              try clear p1
              try clear q1
              try clear hx1
              try clear qi1
              try clear p2
              try clear c3
              try clear c6
              try clear c8
              try clear c8b0
              try clear c9
              try clear c10
              try clear c10b0
              try clear c10b1
              try clear p10
              try clear q10
              try clear hx10
              try clear qi10
              try clear hx108_0
              try clear hx108_1
              try clear hx108_2
              try clear p108
              try clear p2
              try clear q108
              obtain ⟨x11_2, x36_2, rfl, rfl, HA, HK2, HB⟩ := hrel
              cases gk with
              | zero => exact absurd HA.out (by simp [flotillaref12_Ready.l0])
              | succ k2 =>
                have H := HA.out
                clear HA
                simp only [flotillaref12_Ready.l0] at H
                by_cases c11 : x36_2 < (l3.length : Int)
                · rw [if_pos c11] at H
                  have c11b0 : decide (x36_2 < (l3.length : Int)) = true := decide_eq_true c11
                  clear c11
                  by_cases c12 : 0 ≤ x36_2
                  · rw [if_pos c12] at H
                    have c12b0 : decide (0 ≤ x36_2) = true := decide_eq_true c12
                    clear c12
                    by_cases c13 : x36_2 < (l3.length : Int)
                    · rw [if_pos c13] at H
                      have c13b0 : decide (x36_2 < (l3.length : Int)) = true := decide_eq_true c13
                      clear c13
                      have HC14 := Aside0.mk H
                      clear H
                      have p109 : 0 ≤ (x36_2 : Int) := of_decide_eq_true (by first | (with_reducible assumption) | assumption)
                      have q109 : x36_2 < (l3.length : Int) := of_decide_eq_true (by first | (with_reducible assumption) | assumption)
                      obtain ⟨ad109, e109, hx109_0, hx109_1, hx109_2⟩ := at_T27 HR3.out x36_2 p109 q109
                      obtain rfl : ad108 = ad109 := (by injection e109)
                      replace hx109_0 := (HB.out.cell (World.block_lt_of_cell? w _ hx109_0)).trans hx109_0
                      replace hx109_1 := (HB.out.cell (World.block_lt_of_cell? w _ hx109_1)).trans hx109_1
                      replace hx109_2 := (HB.out.cell (World.block_lt_of_cell? w _ hx109_2)).trans hx109_2
                      replace p109 := eq_true p109
                      replace q109 := eq_true q109
                      go_upto_region 9 with (first | ((with_reducible refine gate_dst (N := 13) rfl ?_); refine box_event ?hg (N := 13) ?hd (cs := #[.int .i64 0, .int .i64 0, .bool false]) (t := 27) ?hr ?_; (case hd => rfl); (case hg => rfl); (case hr => first | (go_simp; done) | (go_simp; rfl)); intro gb110 hg w15 hbox hb; have n0_ := Aside0.mk (below_step (by repeat (first | (with_reducible first | exact HB.out | apply below_alloc | apply pw_below_drewN | apply below_drew1) | exact HB.out)) hb); have n1_ := Aside0.mk (hbox); have n2_ := Aside0.mk ((by rw [hg]; exact (below_size (by repeat (first | (with_reducible first | exact HB.out | apply below_alloc | apply pw_below_drewN | apply below_drew1) | exact HB.out))) : w.heap.size ≤ gb110)); have n3_ := Aside0.mk ((by rw [hg]; exact (below_size (by repeat (first | (with_reducible first | exact HB.out | apply below_alloc | apply pw_below_drewN | apply below_drew1) | exact HB.out))) : w.heap.size ≤ gb110)); clear HB; have HB := n0_; have BK110 := n1_; have GW110 := n2_; have GE110 := n3_; clear n0_ n1_ n2_ n3_; clear hb hbox hg; have hcz16_0 : w15.cell? ⟨gb110, 0, none⟩ = some (.int .i64 0) := (blk_cell BK110.out 0).trans rfl; have hcz16_1 : w15.cell? ⟨gb110, 1, none⟩ = some (.int .i64 0) := (blk_cell BK110.out 1).trans rfl; have hcz16_2 : w15.cell? ⟨gb110, 2, none⟩ = some (.bool false) := (blk_cell BK110.out 2).trans rfl; have hfz16_0 := blk_frozen BK110.out 0; have hfz16_1 := blk_frozen BK110.out 1; have hfz16_2 := blk_frozen BK110.out 2))
                      repeat (go_quiet (first | ((with_reducible refine gate_dst (N := 13) rfl ?_); refine box_event ?hg (N := 13) ?hd (cs := #[.int .i64 0, .int .i64 0, .bool false]) (t := 27) ?hr ?_; (case hd => rfl); (case hg => rfl); (case hr => first | (go_simp; done) | (go_simp; rfl)); intro gb110 hg w15 hbox hb; have n0_ := Aside0.mk (below_step (by repeat (first | (with_reducible first | exact HB.out | apply below_alloc | apply pw_below_drewN | apply below_drew1) | exact HB.out)) hb); have n1_ := Aside0.mk (hbox); have n2_ := Aside0.mk ((by rw [hg]; exact (below_size (by repeat (first | (with_reducible first | exact HB.out | apply below_alloc | apply pw_below_drewN | apply below_drew1) | exact HB.out))) : w.heap.size ≤ gb110)); have n3_ := Aside0.mk ((by rw [hg]; exact (below_size (by repeat (first | (with_reducible first | exact HB.out | apply below_alloc | apply pw_below_drewN | apply below_drew1) | exact HB.out))) : w.heap.size ≤ gb110)); clear HB; have HB := n0_; have BK110 := n1_; have GW110 := n2_; have GE110 := n3_; clear n0_ n1_ n2_ n3_; clear hb hbox hg; have hcz16_0 : w15.cell? ⟨gb110, 0, none⟩ = some (.int .i64 0) := (blk_cell BK110.out 0).trans rfl; have hcz16_1 : w15.cell? ⟨gb110, 1, none⟩ = some (.int .i64 0) := (blk_cell BK110.out 1).trans rfl; have hcz16_2 : w15.cell? ⟨gb110, 2, none⟩ = some (.bool false) := (blk_cell BK110.out 2).trans rfl; have hfz16_0 := blk_frozen BK110.out 0; have hfz16_1 := blk_frozen BK110.out 1; have hfz16_2 := blk_frozen BK110.out 2)); go_upto_region 9 with (first | ((with_reducible refine gate_dst (N := 13) rfl ?_); refine box_event ?hg (N := 13) ?hd (cs := #[.int .i64 0, .int .i64 0, .bool false]) (t := 27) ?hr ?_; (case hd => rfl); (case hg => rfl); (case hr => first | (go_simp; done) | (go_simp; rfl)); intro gb110 hg w15 hbox hb; have n0_ := Aside0.mk (below_step (by repeat (first | (with_reducible first | exact HB.out | apply below_alloc | apply pw_below_drewN | apply below_drew1) | exact HB.out)) hb); have n1_ := Aside0.mk (hbox); have n2_ := Aside0.mk ((by rw [hg]; exact (below_size (by repeat (first | (with_reducible first | exact HB.out | apply below_alloc | apply pw_below_drewN | apply below_drew1) | exact HB.out))) : w.heap.size ≤ gb110)); have n3_ := Aside0.mk ((by rw [hg]; exact (below_size (by repeat (first | (with_reducible first | exact HB.out | apply below_alloc | apply pw_below_drewN | apply below_drew1) | exact HB.out))) : w.heap.size ≤ gb110)); clear HB; have HB := n0_; have BK110 := n1_; have GW110 := n2_; have GE110 := n3_; clear n0_ n1_ n2_ n3_; clear hb hbox hg; have hcz16_0 : w15.cell? ⟨gb110, 0, none⟩ = some (.int .i64 0) := (blk_cell BK110.out 0).trans rfl; have hcz16_1 : w15.cell? ⟨gb110, 1, none⟩ = some (.int .i64 0) := (blk_cell BK110.out 1).trans rfl; have hcz16_2 : w15.cell? ⟨gb110, 2, none⟩ = some (.bool false) := (blk_cell BK110.out 2).trans rfl; have hfz16_0 := blk_frozen BK110.out 0; have hfz16_1 := blk_frozen BK110.out 1; have hfz16_2 := blk_frozen BK110.out 2)))
                      (try simp only [Act.put, List.setIfInBounds_toArray, List.set_cons_zero, List.set_cons_succ])
                      go_cut [55] (fun v55 wc => ∃ (kq : Nat) (x55_13 : Bool), v55 = .bool x55_13 ∧ Aside0 (flotillaref12_Ready.j2 kq a0 a1 a2 l3 x11_2 x36_2 l3 (l3.length : Int) x36_2 x55_13 ((rd_T27 l3 x36_2).f0) ((rd_T27 l3 x36_2).f1) ((rd_T27 l3 x36_2).f2) = some (r1, r2, r3)) ∧ Aside0 (kq ≤ k2) ∧ Aside0 (wc.heap[gb110]? = some (.cells #[.int .i64 ((rd_T27 l3 x36_2).f0), .int .i64 ((rd_T27 l3 x36_2).f1), .bool ((rd_T27 l3 x36_2).f2)] 27 (0, 0))) ∧ Aside0 (Below w.heap.size w wc))
                      case first =>
                        have H := HC14.out
                        clear HC14
                        by_cases c17 : ((rd_T27 l3 x36_2).f0) < 0
                        · rw [if_pos c17] at H
                          have c17b0 : decide (((rd_T27 l3 x36_2).f0) < 0) = true := decide_eq_true c17
                          clear c17
                          (first | rw [c17b0] | (simp only [i64_w, i32_w]; rw [c17b0]) | skip)
                          have H' := Aside0.mk H
                          clear H
                          have hcz18_0 : w15.cell? ⟨gb110, 0, none⟩ = some (.int .i64 0) := (blk_cell BK110.out 0).trans rfl
                          have hcz18_1 : w15.cell? ⟨gb110, 1, none⟩ = some (.int .i64 0) := (blk_cell BK110.out 1).trans rfl
                          have hcz18_2 : w15.cell? ⟨gb110, 2, none⟩ = some (.bool false) := (blk_cell BK110.out 2).trans rfl
                          have hfz18_0 := blk_frozen BK110.out 0
                          have hfz18_1 := blk_frozen BK110.out 1
                          have hfz18_2 := blk_frozen BK110.out 2
                          go_wp2
                          repeat (go_quiet (fail); try go_wp2)
                          go_meet
                          case rel => exact ⟨_, (true), (by first | rfl | (simp; done) | (simp [*]; done)), H', ⟨by have := HJ6.out; have := HK2.out; first | omega | exact Nat.le_refl _⟩, ⟨by (with_reducible repeat (first | refine blk_drewN ?_ _ | refine blk_drew ?_ | refine blk_alloc ?_ _)); refine blk_put (cs := #[.int .i64 ((rd_T27 l3 x36_2).f0), .int .i64 ((rd_T27 l3 x36_2).f1), .bool false]) ?_ 2 _ rfl; (with_reducible repeat (first | refine blk_drewN ?_ _ | refine blk_drew ?_ | refine blk_alloc ?_ _)); refine blk_put (cs := #[.int .i64 ((rd_T27 l3 x36_2).f0), .int .i64 0, .bool false]) ?_ 1 _ rfl; (with_reducible repeat (first | refine blk_drewN ?_ _ | refine blk_drew ?_ | refine blk_alloc ?_ _)); refine blk_put (cs := #[.int .i64 0, .int .i64 0, .bool false]) ?_ 0 _ rfl; (with_reducible repeat (first | refine blk_drewN ?_ _ | refine blk_drew ?_ | refine blk_alloc ?_ _)); exact BK110.out⟩, ⟨by repeat (first | (with_reducible first | exact HB.out | apply below_alloc | apply pw_below_drewN | apply below_drew1 | refine below_set ?_ GE110.out) | exact HB.out)⟩⟩
                        · rw [if_neg c17] at H
                          have c17b0 : decide (((rd_T27 l3 x36_2).f0) < 0) = false := decide_eq_false c17
                          clear c17
                          (first | rw [c17b0] | (simp only [i64_w, i32_w]; rw [c17b0]) | skip)
                          by_cases c19 : ((rd_T27 l3 x36_2).f0) ≥ a0
                          · rw [if_pos c19] at H
                            have c19b0 : decide (a0 ≤ ((rd_T27 l3 x36_2).f0)) = true := decide_eq_true c19
                            clear c19
                            have H' := Aside0.mk H
                            clear H
                            have hcz20_0 : w15.cell? ⟨gb110, 0, none⟩ = some (.int .i64 0) := (blk_cell BK110.out 0).trans rfl
                            have hcz20_1 : w15.cell? ⟨gb110, 1, none⟩ = some (.int .i64 0) := (blk_cell BK110.out 1).trans rfl
                            have hcz20_2 : w15.cell? ⟨gb110, 2, none⟩ = some (.bool false) := (blk_cell BK110.out 2).trans rfl
                            have hfz20_0 := blk_frozen BK110.out 0
                            have hfz20_1 := blk_frozen BK110.out 1
                            have hfz20_2 := blk_frozen BK110.out 2
                            go_wp2
                            repeat (go_quiet (fail); try go_wp2)
                            go_meet
                            case rel => exact ⟨_, (true), (by first | rfl | (simp; done) | (simp [*]; done)), H', ⟨by have := HJ6.out; have := HK2.out; first | omega | exact Nat.le_refl _⟩, ⟨by (with_reducible repeat (first | refine blk_drewN ?_ _ | refine blk_drew ?_ | refine blk_alloc ?_ _)); refine blk_put (cs := #[.int .i64 ((rd_T27 l3 x36_2).f0), .int .i64 ((rd_T27 l3 x36_2).f1), .bool false]) ?_ 2 _ rfl; (with_reducible repeat (first | refine blk_drewN ?_ _ | refine blk_drew ?_ | refine blk_alloc ?_ _)); refine blk_put (cs := #[.int .i64 ((rd_T27 l3 x36_2).f0), .int .i64 0, .bool false]) ?_ 1 _ rfl; (with_reducible repeat (first | refine blk_drewN ?_ _ | refine blk_drew ?_ | refine blk_alloc ?_ _)); refine blk_put (cs := #[.int .i64 0, .int .i64 0, .bool false]) ?_ 0 _ rfl; (with_reducible repeat (first | refine blk_drewN ?_ _ | refine blk_drew ?_ | refine blk_alloc ?_ _)); exact BK110.out⟩, ⟨by repeat (first | (with_reducible first | exact HB.out | apply below_alloc | apply pw_below_drewN | apply below_drew1 | refine below_set ?_ GE110.out) | exact HB.out)⟩⟩
                          · rw [if_neg c19] at H
                            have c19b0 : decide (a0 ≤ ((rd_T27 l3 x36_2).f0)) = false := decide_eq_false c19
                            clear c19
                            have H' := Aside0.mk H
                            clear H
                            have hcz21_0 : w15.cell? ⟨gb110, 0, none⟩ = some (.int .i64 0) := (blk_cell BK110.out 0).trans rfl
                            have hcz21_1 : w15.cell? ⟨gb110, 1, none⟩ = some (.int .i64 0) := (blk_cell BK110.out 1).trans rfl
                            have hcz21_2 : w15.cell? ⟨gb110, 2, none⟩ = some (.bool false) := (blk_cell BK110.out 2).trans rfl
                            have hfz21_0 := blk_frozen BK110.out 0
                            have hfz21_1 := blk_frozen BK110.out 1
                            have hfz21_2 := blk_frozen BK110.out 2
                            go_wp2
                            repeat (go_quiet (fail); try go_wp2)
                            go_meet
                            case rel => exact ⟨_, ((((rd_T27 l3 x36_2).f0) == a1)), (by first | rfl | (simp; done) | (simp [*]; done)), H', ⟨by have := HJ6.out; have := HK2.out; first | omega | exact Nat.le_refl _⟩, ⟨by (with_reducible repeat (first | refine blk_drewN ?_ _ | refine blk_drew ?_ | refine blk_alloc ?_ _)); refine blk_put (cs := #[.int .i64 ((rd_T27 l3 x36_2).f0), .int .i64 ((rd_T27 l3 x36_2).f1), .bool false]) ?_ 2 _ rfl; (with_reducible repeat (first | refine blk_drewN ?_ _ | refine blk_drew ?_ | refine blk_alloc ?_ _)); refine blk_put (cs := #[.int .i64 ((rd_T27 l3 x36_2).f0), .int .i64 0, .bool false]) ?_ 1 _ rfl; (with_reducible repeat (first | refine blk_drewN ?_ _ | refine blk_drew ?_ | refine blk_alloc ?_ _)); refine blk_put (cs := #[.int .i64 0, .int .i64 0, .bool false]) ?_ 0 _ rfl; (with_reducible repeat (first | refine blk_drewN ?_ _ | refine blk_drew ?_ | refine blk_alloc ?_ _)); exact BK110.out⟩, ⟨by repeat (first | (with_reducible first | exact HB.out | apply below_alloc | apply pw_below_drewN | apply below_drew1 | refine below_set ?_ GE110.out) | exact HB.out)⟩⟩
                      case rest =>
                        clear HC14
                        try clear c1
                        try clear p1
                        try clear q1
                        try clear hx1
                        try clear qi1
                        try clear p2
                        try clear c3
                        try clear c6
                        try clear c8
                        try clear c8b0
                        try clear c9
                        try clear c10
                        try clear c10b0
                        try clear c10b1
                        try clear p10
                        try clear q10
                        try clear hx10
                        try clear qi10
                        try clear c11
                        try clear c11b0
                        try clear c12
                        try clear c12b0
                        try clear c13
                        try clear c13b0
                        try clear c17
                        try clear c17b0
                        try clear c19
                        try clear c19b0
                        try clear hcz16_0
                        try clear hcz16_1
                        try clear hcz16_2
                        try clear hcz18_0
                        try clear hcz18_1
                        try clear hcz18_2
                        try clear hcz20_0
                        try clear hcz20_1
                        try clear hcz20_2
                        try clear hcz21_0
                        try clear hcz21_1
                        try clear hcz21_2
                        try clear hfz16_0
                        try clear hfz16_1
                        try clear hfz16_2
                        try clear hfz18_0
                        try clear hfz18_1
                        try clear hfz18_2
                        try clear hfz20_0
                        try clear hfz20_1
                        try clear hfz20_2
                        try clear hfz21_0
                        try clear hfz21_1
                        try clear hfz21_2
                        try clear hx108_0
                        try clear hx108_1
                        try clear hx108_2
                        try clear hx109_0
                        try clear hx109_1
                        try clear hx109_2
                        try clear p1
                        try clear p10
                        try clear p108
                        try clear p109
                        try clear p2
                        try clear q1
                        try clear q10
                        try clear q108
                        try clear q109
                        obtain ⟨kq, x55_13, rfl, HA, HJ13, BK110, HB⟩ := hcut
                        cases kq with
                        | zero => exact absurd HA.out (by simp [flotillaref12_Ready.j2])
                        | succ kj13 =>
                          have H := HA.out
                          clear HA
                          simp only [flotillaref12_Ready.j2] at H
                          by_cases c22 : x55_13 = true
                          · subst c22
                            have H1 : (some (0, false, 121)) = some (r1, r2, r3) := by rw [if_pos rfl] at H; exact H
                            clear H
                            have H := H1
                            clear H1
                            simp only [Option.some.injEq, Prod.mk.injEq] at H
                            obtain ⟨rfl, rfl, rfl⟩ := H
                            go_wp2
                            repeat (go_quiet (fail); try go_wp2)
                            go_ret3
                            exact ⟨by first | rfl | (simp [errW_none, errW_some] <;> rfl) | (simp [*, errW_none, errW_some] <;> rfl), by repeat (first | (with_reducible first | exact HB.out | apply below_alloc | apply pw_below_drewN | apply below_drew1 | refine below_set ?_ GE110.out) | exact HB.out)⟩
                          · replace c22 := Bool.eq_false_iff.mpr c22
                            subst c22
                            have H1 : (if 0 ≤ x36_2 then (if x36_2 ≤ (l3.length : Int) then ((some (l3.take (x36_2 : Int).toNat : List (S27))).bind fun y111 => (flotillaref12_Ready.l1 kj13 a0 a1 a2 l3 x11_2 l3 (l3.length : Int) x36_2 y111 (y111.length : Int) 0 ((rd_T27 l3 x36_2).f0) ((rd_T27 l3 x36_2).f1) ((rd_T27 l3 x36_2).f2))) else (none)) else (none)) = some (r1, r2, r3) := by rw [if_neg (show ¬ (false = true) by decide)] at H; exact H
                            clear H
                            have H := H1
                            clear H1
                            by_cases c23 : 0 ≤ x36_2
                            · rw [if_pos c23] at H
                              have c23b0 := eq_true c23
                              have c23b1 : decide (0 ≤ x36_2) = true := decide_eq_true c23
                              clear c23
                              by_cases c24 : x36_2 ≤ (l3.length : Int)
                              · rw [if_pos c24] at H
                                have c24b0 := eq_true c24
                                have c24b1 : decide (x36_2 ≤ (l3.length : Int)) = true := decide_eq_true c24
                                clear c24
                                obtain ⟨y111, hy111⟩ : ∃ y_ : List (S27), y_ = (l3.take (x36_2 : Int).toNat) := ⟨_, rfl⟩
                                replace H : (flotillaref12_Ready.l1 kj13 a0 a1 a2 l3 x11_2 l3 (l3.length : Int) x36_2 y111 (y111.length : Int) 0 ((rd_T27 l3 x36_2).f0) ((rd_T27 l3 x36_2).f1) ((rd_T27 l3 x36_2).f2)) = some (r1, r2, r3) := by first | (rw [hy111]; with_reducible exact H) | (have H2_ := (Option.bind_some _ _).symm.trans H; rw [hy111]; with_reducible exact H2_) | (have H2_ := (Option.bind_some _ _).symm.trans H; with_reducible exact H2_) | with_reducible exact H | (rw [hy111]; exact H) | exact H
                                have Ny111 := Aside0.mk hy111
                                clear hy111
                                have H' := Aside0.mk H
                                clear H
                                have q25 : (x36_2 : Int) ≤ ((l3.length : Int) : Int) := of_decide_eq_true (by first | (with_reducible assumption) | assumption)
                                obtain ⟨i025, hi025, _, hsz25, _⟩ := info_parts info27
                                have hroom25 : l3.length ≤ c3 := HC3.out
                                have hC25 : Kd.C k27 _ (some ad108) l3.length l3 := HR3.out
                                have hcut25 := cut_to (P := Try.prog) 23 27 .i64 Try.underlying23 hi025 (some ad108) l3.length c3 x36_2 (of_decide_eq_true (by first | (with_reducible assumption) | assumption)) q25 hroom25
                                have hr25 := Kd.C_take (m := (x36_2 : Int).toNat) hC25 (by omega)
                                have hy25 : y111.length = (x36_2 : Int).toNat := (by rw [Ny111.out, List.length_take]; omega)
                                rw [← Ny111.out] at hr25
                                rw [← hy25] at hcut25
                                have HR114 := Aside0.mk hr25
                                have HC114 := Aside0.mk (show y111.length ≤ c3 from by omega)
                                clear hr25 hC25 hroom25 hi025 hsz25
                                have KY25 := Aside0.mk hy25
                                clear hy25
                                replace q25 := eq_true q25
                                go_wp2
                                repeat (go_quiet (fail); try go_wp2)
                                go_loopg [60] kj13 (fun kq v60 w' => ∃ (x60_4 : Int), v60 = .int .i64 x60_4 ∧ Aside0 (flotillaref12_Ready.l1 kq a0 a1 a2 l3 x11_2 l3 (l3.length : Int) x36_2 y111 (y111.length : Int) x60_4 ((rd_T27 l3 x36_2).f0) ((rd_T27 l3 x36_2).f1) ((rd_T27 l3 x36_2).f2) = some (r1, r2, r3)) ∧ Aside0 (kq ≤ kj13) ∧ Aside0 (w'.heap[gb110]? = some (.cells #[.int .i64 ((rd_T27 l3 x36_2).f0), .int .i64 ((rd_T27 l3 x36_2).f1), .bool ((rd_T27 l3 x36_2).f2)] 27 (0, 0))) ∧ Aside0 (Below w.heap.size w w'))
                                case atStart => exact ⟨(0), (by first | rfl | (simp; done) | (simp [*]; done)), H', ⟨Nat.le_refl _⟩, ⟨by (with_reducible repeat (first | refine blk_drewN ?_ _ | refine blk_drew ?_ | refine blk_alloc ?_ _)); exact BK110.out⟩, ⟨by repeat (first | (with_reducible first | exact HB.out | apply below_alloc | apply pw_below_drewN | apply below_drew1 | refine below_set ?_ GE110.out) | exact HB.out)⟩⟩
                                case round =>
                                  clear H'
                                  try clear c1
                                  try clear p1
                                  try clear q1
                                  try clear hx1
                                  try clear qi1
                                  try clear c2
                                  try clear p2
                                  try clear q2
                                  try clear c3
                                  try clear c6
                                  try clear c8
                                  try clear c8b0
                                  try clear c9
                                  try clear c10
                                  try clear c10b0
                                  try clear c10b1
                                  try clear p10
                                  try clear q10
                                  try clear hx10
                                  try clear qi10
                                  try clear c11
                                  try clear c11b0
                                  try clear c12
                                  try clear c12b0
                                  try clear c13
                                  try clear c13b0
                                  try clear c17
                                  try clear c17b0
                                  try clear c19
                                  try clear c19b0
                                  try clear c22
                                  try clear c23
                                  try clear c23b0
                                  try clear c23b1
                                  try clear c24
                                  try clear c24b0
                                  try clear c24b1
                                  try clear q25
                                  try clear hcz16_0
                                  try clear hcz16_1
                                  try clear hcz16_2
                                  try clear hcz18_0
                                  try clear hcz18_1
                                  try clear hcz18_2
                                  try clear hcz20_0
                                  try clear hcz20_1
                                  try clear hcz20_2
                                  try clear hcz21_0
                                  try clear hcz21_1
                                  try clear hcz21_2
                                  try clear hfz16_0
                                  try clear hfz16_1
                                  try clear hfz16_2
                                  try clear hfz18_0
                                  try clear hfz18_1
                                  try clear hfz18_2
                                  try clear hfz20_0
                                  try clear hfz20_1
                                  try clear hfz20_2
                                  try clear hfz21_0
                                  try clear hfz21_1
                                  try clear hfz21_2
                                  try clear hx108_0
                                  try clear hx108_1
                                  try clear hx108_2
                                  try clear hx109_0
                                  try clear hx109_1
                                  try clear hx109_2
                                  try clear p1
                                  try clear p10
                                  try clear p108
                                  try clear p109
                                  try clear p2
                                  try clear q1
                                  try clear q10
                                  try clear q108
                                  try clear q109
                                  try clear q25
                                  obtain ⟨x60_4, rfl, HA, HK4, BK110, HB⟩ := hrel
                                  cases gk with
                                  | zero => exact absurd HA.out (by simp [flotillaref12_Ready.l1])
                                  | succ k4 =>
                                    have H := HA.out
                                    clear HA
                                    simp only [flotillaref12_Ready.l1] at H
                                    by_cases c26 : x60_4 < (y111.length : Int)
                                    · rw [if_pos c26] at H
                                      have c26b0 : decide (x60_4 < (y111.length : Int)) = true := decide_eq_true c26
                                      clear c26
                                      by_cases c27 : 0 ≤ x60_4
                                      · rw [if_pos c27] at H
                                        have c27b0 : decide (0 ≤ x60_4) = true := decide_eq_true c27
                                        clear c27
                                        by_cases c28 : x60_4 < (y111.length : Int)
                                        · rw [if_pos c28] at H
                                          have c28b0 : decide (x60_4 < (y111.length : Int)) = true := decide_eq_true c28
                                          clear c28
                                          by_cases c29 : ((rd_T27 y111 x60_4).f0) = ((rd_T27 l3 x36_2).f0)
                                          · rw [if_pos c29] at H
                                            have c29b0 : (((rd_T27 y111 x60_4).f0) == ((rd_T27 l3 x36_2).f0)) = true := beq_iff_eq.mpr c29
                                            have c29b1 : (((rd_T27 y111 x60_4).f0) != ((rd_T27 l3 x36_2).f0)) = false := bne_eq_false_iff_eq.mpr c29
                                            clear c29
                                            simp only [Option.some.injEq, Prod.mk.injEq] at H
                                            obtain ⟨rfl, rfl, rfl⟩ := H
                                            have p115 : 0 ≤ (x60_4 : Int) := of_decide_eq_true (by first | (with_reducible assumption) | assumption)
                                            have q115 : x60_4 < (y111.length : Int) := of_decide_eq_true (by first | (with_reducible assumption) | assumption)
                                            obtain ⟨ad115, e115, hx115_0, hx115_1, hx115_2⟩ := at_T27 HR114.out x60_4 p115 q115
                                            obtain rfl : ad108 = ad115 := (by injection e115)
                                            replace hx115_0 := (HB.out.cell (World.block_lt_of_cell? w _ hx115_0)).trans hx115_0
                                            replace hx115_1 := (HB.out.cell (World.block_lt_of_cell? w _ hx115_1)).trans hx115_1
                                            replace hx115_2 := (HB.out.cell (World.block_lt_of_cell? w _ hx115_2)).trans hx115_2
                                            replace p115 := eq_true p115
                                            replace q115 := eq_true q115
                                            go_wp2_with (first | ((with_reducible refine gate_dst (N := 15) rfl ?_); refine box_event ?hg (N := 15) ?hd (cs := #[.int .i64 0, .int .i64 0, .bool false]) (t := 27) ?hr ?_; (case hd => rfl); (case hg => rfl); (case hr => first | (go_simp; done) | (go_simp; rfl)); intro gb116 hg w30 hbox hb; have n0_ := Aside0.mk (blk_below (g := gb110) (o := .cells #[.int .i64 ((rd_T27 l3 x36_2).f0), .int .i64 ((rd_T27 l3 x36_2).f1), .bool ((rd_T27 l3 x36_2).f2)] 27 (0, 0)) (by (with_reducible repeat (first | refine blk_drewN ?_ _ | refine blk_drew ?_ | refine blk_alloc ?_ _)); exact BK110.out) hb); have n1_ := Aside0.mk (below_step (by repeat (first | (with_reducible first | exact HB.out | apply below_alloc | apply pw_below_drewN | apply below_drew1 | refine below_set ?_ GE110.out) | exact HB.out)) hb); have n2_ := Aside0.mk (hbox); have n3_ := Aside0.mk ((by rw [hg]; exact (below_size (by repeat (first | (with_reducible first | exact HB.out | apply below_alloc | apply pw_below_drewN | apply below_drew1 | refine below_set ?_ GE110.out) | exact HB.out))) : w.heap.size ≤ gb116)); have n4_ := Aside0.mk ((by rw [hg]; exact (below_size (by repeat (first | (with_reducible first | exact HB.out | apply below_alloc | apply pw_below_drewN | apply below_drew1 | refine below_set ?_ GE110.out) | exact HB.out))) : w.heap.size ≤ gb116)); have n5_ := Aside0.mk ((by rw [hg]; exact Nat.ne_of_lt (blk_lt (g := gb110) (o := .cells #[.int .i64 ((rd_T27 l3 x36_2).f0), .int .i64 ((rd_T27 l3 x36_2).f1), .bool ((rd_T27 l3 x36_2).f2)] 27 (0, 0)) (by (with_reducible repeat (first | refine blk_drewN ?_ _ | refine blk_drew ?_ | refine blk_alloc ?_ _)); exact BK110.out)) : gb110 ≠ gb116)); have n6_ := Aside0.mk ((by rw [hg]; exact Nat.ne_of_gt (blk_lt (g := gb110) (o := .cells #[.int .i64 ((rd_T27 l3 x36_2).f0), .int .i64 ((rd_T27 l3 x36_2).f1), .bool ((rd_T27 l3 x36_2).f2)] 27 (0, 0)) (by (with_reducible repeat (first | refine blk_drewN ?_ _ | refine blk_drew ?_ | refine blk_alloc ?_ _)); exact BK110.out)) : gb116 ≠ gb110)); clear BK110; clear HB; have BK110 := n0_; have HB := n1_; have BK116 := n2_; have GW116 := n3_; have GE116 := n4_; have NB110_116 := n5_; have NB116_110 := n6_; clear n0_ n1_ n2_ n3_ n4_ n5_ n6_; clear hb hbox hg; have hnb31 := NB116_110.out; have hnc31 := NB110_116.out; have hcz32_0 : w30.cell? ⟨gb116, 0, none⟩ = some (.int .i64 0) := (blk_cell BK116.out 0).trans rfl; have hcz32_1 : w30.cell? ⟨gb116, 1, none⟩ = some (.int .i64 0) := (blk_cell BK116.out 1).trans rfl; have hcz32_2 : w30.cell? ⟨gb116, 2, none⟩ = some (.bool false) := (blk_cell BK116.out 2).trans rfl; have hfz32_0 := blk_frozen BK116.out 0; have hfz32_1 := blk_frozen BK116.out 1; have hfz32_2 := blk_frozen BK116.out 2; have hcz33_0 : w30.cell? ⟨gb110, 0, none⟩ = some (.int .i64 ((rd_T27 l3 x36_2).f0)) := (blk_cell BK110.out 0).trans rfl; have hcz33_1 : w30.cell? ⟨gb110, 1, none⟩ = some (.int .i64 ((rd_T27 l3 x36_2).f1)) := (blk_cell BK110.out 1).trans rfl; have hcz33_2 : w30.cell? ⟨gb110, 2, none⟩ = some (.bool ((rd_T27 l3 x36_2).f2)) := (blk_cell BK110.out 2).trans rfl; have hfz33_0 := blk_frozen BK110.out 0; have hfz33_1 := blk_frozen BK110.out 1; have hfz33_2 := blk_frozen BK110.out 2))
                                            repeat (go_quiet (first | ((with_reducible refine gate_dst (N := 15) rfl ?_); refine box_event ?hg (N := 15) ?hd (cs := #[.int .i64 0, .int .i64 0, .bool false]) (t := 27) ?hr ?_; (case hd => rfl); (case hg => rfl); (case hr => first | (go_simp; done) | (go_simp; rfl)); intro gb116 hg w30 hbox hb; have n0_ := Aside0.mk (blk_below (g := gb110) (o := .cells #[.int .i64 ((rd_T27 l3 x36_2).f0), .int .i64 ((rd_T27 l3 x36_2).f1), .bool ((rd_T27 l3 x36_2).f2)] 27 (0, 0)) (by (with_reducible repeat (first | refine blk_drewN ?_ _ | refine blk_drew ?_ | refine blk_alloc ?_ _)); exact BK110.out) hb); have n1_ := Aside0.mk (below_step (by repeat (first | (with_reducible first | exact HB.out | apply below_alloc | apply pw_below_drewN | apply below_drew1 | refine below_set ?_ GE110.out) | exact HB.out)) hb); have n2_ := Aside0.mk (hbox); have n3_ := Aside0.mk ((by rw [hg]; exact (below_size (by repeat (first | (with_reducible first | exact HB.out | apply below_alloc | apply pw_below_drewN | apply below_drew1 | refine below_set ?_ GE110.out) | exact HB.out))) : w.heap.size ≤ gb116)); have n4_ := Aside0.mk ((by rw [hg]; exact (below_size (by repeat (first | (with_reducible first | exact HB.out | apply below_alloc | apply pw_below_drewN | apply below_drew1 | refine below_set ?_ GE110.out) | exact HB.out))) : w.heap.size ≤ gb116)); have n5_ := Aside0.mk ((by rw [hg]; exact Nat.ne_of_lt (blk_lt (g := gb110) (o := .cells #[.int .i64 ((rd_T27 l3 x36_2).f0), .int .i64 ((rd_T27 l3 x36_2).f1), .bool ((rd_T27 l3 x36_2).f2)] 27 (0, 0)) (by (with_reducible repeat (first | refine blk_drewN ?_ _ | refine blk_drew ?_ | refine blk_alloc ?_ _)); exact BK110.out)) : gb110 ≠ gb116)); have n6_ := Aside0.mk ((by rw [hg]; exact Nat.ne_of_gt (blk_lt (g := gb110) (o := .cells #[.int .i64 ((rd_T27 l3 x36_2).f0), .int .i64 ((rd_T27 l3 x36_2).f1), .bool ((rd_T27 l3 x36_2).f2)] 27 (0, 0)) (by (with_reducible repeat (first | refine blk_drewN ?_ _ | refine blk_drew ?_ | refine blk_alloc ?_ _)); exact BK110.out)) : gb116 ≠ gb110)); clear BK110; clear HB; have BK110 := n0_; have HB := n1_; have BK116 := n2_; have GW116 := n3_; have GE116 := n4_; have NB110_116 := n5_; have NB116_110 := n6_; clear n0_ n1_ n2_ n3_ n4_ n5_ n6_; clear hb hbox hg; have hnb31 := NB116_110.out; have hnc31 := NB110_116.out; have hcz32_0 : w30.cell? ⟨gb116, 0, none⟩ = some (.int .i64 0) := (blk_cell BK116.out 0).trans rfl; have hcz32_1 : w30.cell? ⟨gb116, 1, none⟩ = some (.int .i64 0) := (blk_cell BK116.out 1).trans rfl; have hcz32_2 : w30.cell? ⟨gb116, 2, none⟩ = some (.bool false) := (blk_cell BK116.out 2).trans rfl; have hfz32_0 := blk_frozen BK116.out 0; have hfz32_1 := blk_frozen BK116.out 1; have hfz32_2 := blk_frozen BK116.out 2; have hcz33_0 : w30.cell? ⟨gb110, 0, none⟩ = some (.int .i64 ((rd_T27 l3 x36_2).f0)) := (blk_cell BK110.out 0).trans rfl; have hcz33_1 : w30.cell? ⟨gb110, 1, none⟩ = some (.int .i64 ((rd_T27 l3 x36_2).f1)) := (blk_cell BK110.out 1).trans rfl; have hcz33_2 : w30.cell? ⟨gb110, 2, none⟩ = some (.bool ((rd_T27 l3 x36_2).f2)) := (blk_cell BK110.out 2).trans rfl; have hfz33_0 := blk_frozen BK110.out 0; have hfz33_1 := blk_frozen BK110.out 1; have hfz33_2 := blk_frozen BK110.out 2)); try go_wp2_with (first | ((with_reducible refine gate_dst (N := 15) rfl ?_); refine box_event ?hg (N := 15) ?hd (cs := #[.int .i64 0, .int .i64 0, .bool false]) (t := 27) ?hr ?_; (case hd => rfl); (case hg => rfl); (case hr => first | (go_simp; done) | (go_simp; rfl)); intro gb116 hg w30 hbox hb; have n0_ := Aside0.mk (blk_below (g := gb110) (o := .cells #[.int .i64 ((rd_T27 l3 x36_2).f0), .int .i64 ((rd_T27 l3 x36_2).f1), .bool ((rd_T27 l3 x36_2).f2)] 27 (0, 0)) (by (with_reducible repeat (first | refine blk_drewN ?_ _ | refine blk_drew ?_ | refine blk_alloc ?_ _)); exact BK110.out) hb); have n1_ := Aside0.mk (below_step (by repeat (first | (with_reducible first | exact HB.out | apply below_alloc | apply pw_below_drewN | apply below_drew1 | refine below_set ?_ GE110.out) | exact HB.out)) hb); have n2_ := Aside0.mk (hbox); have n3_ := Aside0.mk ((by rw [hg]; exact (below_size (by repeat (first | (with_reducible first | exact HB.out | apply below_alloc | apply pw_below_drewN | apply below_drew1 | refine below_set ?_ GE110.out) | exact HB.out))) : w.heap.size ≤ gb116)); have n4_ := Aside0.mk ((by rw [hg]; exact (below_size (by repeat (first | (with_reducible first | exact HB.out | apply below_alloc | apply pw_below_drewN | apply below_drew1 | refine below_set ?_ GE110.out) | exact HB.out))) : w.heap.size ≤ gb116)); have n5_ := Aside0.mk ((by rw [hg]; exact Nat.ne_of_lt (blk_lt (g := gb110) (o := .cells #[.int .i64 ((rd_T27 l3 x36_2).f0), .int .i64 ((rd_T27 l3 x36_2).f1), .bool ((rd_T27 l3 x36_2).f2)] 27 (0, 0)) (by (with_reducible repeat (first | refine blk_drewN ?_ _ | refine blk_drew ?_ | refine blk_alloc ?_ _)); exact BK110.out)) : gb110 ≠ gb116)); have n6_ := Aside0.mk ((by rw [hg]; exact Nat.ne_of_gt (blk_lt (g := gb110) (o := .cells #[.int .i64 ((rd_T27 l3 x36_2).f0), .int .i64 ((rd_T27 l3 x36_2).f1), .bool ((rd_T27 l3 x36_2).f2)] 27 (0, 0)) (by (with_reducible repeat (first | refine blk_drewN ?_ _ | refine blk_drew ?_ | refine blk_alloc ?_ _)); exact BK110.out)) : gb116 ≠ gb110)); clear BK110; clear HB; have BK110 := n0_; have HB := n1_; have BK116 := n2_; have GW116 := n3_; have GE116 := n4_; have NB110_116 := n5_; have NB116_110 := n6_; clear n0_ n1_ n2_ n3_ n4_ n5_ n6_; clear hb hbox hg; have hnb31 := NB116_110.out; have hnc31 := NB110_116.out; have hcz32_0 : w30.cell? ⟨gb116, 0, none⟩ = some (.int .i64 0) := (blk_cell BK116.out 0).trans rfl; have hcz32_1 : w30.cell? ⟨gb116, 1, none⟩ = some (.int .i64 0) := (blk_cell BK116.out 1).trans rfl; have hcz32_2 : w30.cell? ⟨gb116, 2, none⟩ = some (.bool false) := (blk_cell BK116.out 2).trans rfl; have hfz32_0 := blk_frozen BK116.out 0; have hfz32_1 := blk_frozen BK116.out 1; have hfz32_2 := blk_frozen BK116.out 2; have hcz33_0 : w30.cell? ⟨gb110, 0, none⟩ = some (.int .i64 ((rd_T27 l3 x36_2).f0)) := (blk_cell BK110.out 0).trans rfl; have hcz33_1 : w30.cell? ⟨gb110, 1, none⟩ = some (.int .i64 ((rd_T27 l3 x36_2).f1)) := (blk_cell BK110.out 1).trans rfl; have hcz33_2 : w30.cell? ⟨gb110, 2, none⟩ = some (.bool ((rd_T27 l3 x36_2).f2)) := (blk_cell BK110.out 2).trans rfl; have hfz33_0 := blk_frozen BK110.out 0; have hfz33_1 := blk_frozen BK110.out 1; have hfz33_2 := blk_frozen BK110.out 2)))
                                            go_ret3
                                            exact ⟨by first | rfl | (simp [errW_none, errW_some] <;> rfl) | (simp [*, errW_none, errW_some] <;> rfl), by repeat (first | (with_reducible first | exact HB.out | apply below_alloc | apply pw_below_drewN | apply below_drew1 | refine below_set ?_ GE110.out | refine below_set ?_ GE116.out) | exact HB.out)⟩
                                          · rw [if_neg c29] at H
                                            have c29b0 : (((rd_T27 y111 x60_4).f0) == ((rd_T27 l3 x36_2).f0)) = false := beq_eq_false_iff_ne.mpr c29
                                            have c29b1 : (((rd_T27 y111 x60_4).f0) != ((rd_T27 l3 x36_2).f0)) = true := bne_iff_ne.mpr c29
                                            have H' := Aside0.mk H
                                            clear H
                                            have p115 : 0 ≤ (x60_4 : Int) := of_decide_eq_true (by first | (with_reducible assumption) | assumption)
                                            have q115 : x60_4 < (y111.length : Int) := of_decide_eq_true (by first | (with_reducible assumption) | assumption)
                                            obtain ⟨ad115, e115, hx115_0, hx115_1, hx115_2⟩ := at_T27 HR114.out x60_4 p115 q115
                                            obtain rfl : ad108 = ad115 := (by injection e115)
                                            replace hx115_0 := (HB.out.cell (World.block_lt_of_cell? w _ hx115_0)).trans hx115_0
                                            replace hx115_1 := (HB.out.cell (World.block_lt_of_cell? w _ hx115_1)).trans hx115_1
                                            replace hx115_2 := (HB.out.cell (World.block_lt_of_cell? w _ hx115_2)).trans hx115_2
                                            replace p115 := eq_true p115
                                            replace q115 := eq_true q115
                                            go_wp2_with (first | ((with_reducible refine gate_dst (N := 15) rfl ?_); refine box_event ?hg (N := 15) ?hd (cs := #[.int .i64 0, .int .i64 0, .bool false]) (t := 27) ?hr ?_; (case hd => rfl); (case hg => rfl); (case hr => first | (go_simp; done) | (go_simp; rfl)); intro gb116 hg w34 hbox hb; have n0_ := Aside0.mk (blk_below (g := gb110) (o := .cells #[.int .i64 ((rd_T27 l3 x36_2).f0), .int .i64 ((rd_T27 l3 x36_2).f1), .bool ((rd_T27 l3 x36_2).f2)] 27 (0, 0)) (by (with_reducible repeat (first | refine blk_drewN ?_ _ | refine blk_drew ?_ | refine blk_alloc ?_ _)); exact BK110.out) hb); have n1_ := Aside0.mk (below_step (by repeat (first | (with_reducible first | exact HB.out | apply below_alloc | apply pw_below_drewN | apply below_drew1 | refine below_set ?_ GE110.out) | exact HB.out)) hb); have n2_ := Aside0.mk (hbox); have n3_ := Aside0.mk ((by rw [hg]; exact (below_size (by repeat (first | (with_reducible first | exact HB.out | apply below_alloc | apply pw_below_drewN | apply below_drew1 | refine below_set ?_ GE110.out) | exact HB.out))) : w.heap.size ≤ gb116)); have n4_ := Aside0.mk ((by rw [hg]; exact (below_size (by repeat (first | (with_reducible first | exact HB.out | apply below_alloc | apply pw_below_drewN | apply below_drew1 | refine below_set ?_ GE110.out) | exact HB.out))) : w.heap.size ≤ gb116)); have n5_ := Aside0.mk ((by rw [hg]; exact Nat.ne_of_lt (blk_lt (g := gb110) (o := .cells #[.int .i64 ((rd_T27 l3 x36_2).f0), .int .i64 ((rd_T27 l3 x36_2).f1), .bool ((rd_T27 l3 x36_2).f2)] 27 (0, 0)) (by (with_reducible repeat (first | refine blk_drewN ?_ _ | refine blk_drew ?_ | refine blk_alloc ?_ _)); exact BK110.out)) : gb110 ≠ gb116)); have n6_ := Aside0.mk ((by rw [hg]; exact Nat.ne_of_gt (blk_lt (g := gb110) (o := .cells #[.int .i64 ((rd_T27 l3 x36_2).f0), .int .i64 ((rd_T27 l3 x36_2).f1), .bool ((rd_T27 l3 x36_2).f2)] 27 (0, 0)) (by (with_reducible repeat (first | refine blk_drewN ?_ _ | refine blk_drew ?_ | refine blk_alloc ?_ _)); exact BK110.out)) : gb116 ≠ gb110)); clear BK110; clear HB; have BK110 := n0_; have HB := n1_; have BK116 := n2_; have GW116 := n3_; have GE116 := n4_; have NB110_116 := n5_; have NB116_110 := n6_; clear n0_ n1_ n2_ n3_ n4_ n5_ n6_; clear hb hbox hg; have hnb35 := NB116_110.out; have hnc35 := NB110_116.out; have hcz36_0 : w34.cell? ⟨gb116, 0, none⟩ = some (.int .i64 0) := (blk_cell BK116.out 0).trans rfl; have hcz36_1 : w34.cell? ⟨gb116, 1, none⟩ = some (.int .i64 0) := (blk_cell BK116.out 1).trans rfl; have hcz36_2 : w34.cell? ⟨gb116, 2, none⟩ = some (.bool false) := (blk_cell BK116.out 2).trans rfl; have hfz36_0 := blk_frozen BK116.out 0; have hfz36_1 := blk_frozen BK116.out 1; have hfz36_2 := blk_frozen BK116.out 2; have hcz37_0 : w34.cell? ⟨gb110, 0, none⟩ = some (.int .i64 ((rd_T27 l3 x36_2).f0)) := (blk_cell BK110.out 0).trans rfl; have hcz37_1 : w34.cell? ⟨gb110, 1, none⟩ = some (.int .i64 ((rd_T27 l3 x36_2).f1)) := (blk_cell BK110.out 1).trans rfl; have hcz37_2 : w34.cell? ⟨gb110, 2, none⟩ = some (.bool ((rd_T27 l3 x36_2).f2)) := (blk_cell BK110.out 2).trans rfl; have hfz37_0 := blk_frozen BK110.out 0; have hfz37_1 := blk_frozen BK110.out 1; have hfz37_2 := blk_frozen BK110.out 2))
                                            repeat (go_quiet (first | ((with_reducible refine gate_dst (N := 15) rfl ?_); refine box_event ?hg (N := 15) ?hd (cs := #[.int .i64 0, .int .i64 0, .bool false]) (t := 27) ?hr ?_; (case hd => rfl); (case hg => rfl); (case hr => first | (go_simp; done) | (go_simp; rfl)); intro gb116 hg w34 hbox hb; have n0_ := Aside0.mk (blk_below (g := gb110) (o := .cells #[.int .i64 ((rd_T27 l3 x36_2).f0), .int .i64 ((rd_T27 l3 x36_2).f1), .bool ((rd_T27 l3 x36_2).f2)] 27 (0, 0)) (by (with_reducible repeat (first | refine blk_drewN ?_ _ | refine blk_drew ?_ | refine blk_alloc ?_ _)); exact BK110.out) hb); have n1_ := Aside0.mk (below_step (by repeat (first | (with_reducible first | exact HB.out | apply below_alloc | apply pw_below_drewN | apply below_drew1 | refine below_set ?_ GE110.out) | exact HB.out)) hb); have n2_ := Aside0.mk (hbox); have n3_ := Aside0.mk ((by rw [hg]; exact (below_size (by repeat (first | (with_reducible first | exact HB.out | apply below_alloc | apply pw_below_drewN | apply below_drew1 | refine below_set ?_ GE110.out) | exact HB.out))) : w.heap.size ≤ gb116)); have n4_ := Aside0.mk ((by rw [hg]; exact (below_size (by repeat (first | (with_reducible first | exact HB.out | apply below_alloc | apply pw_below_drewN | apply below_drew1 | refine below_set ?_ GE110.out) | exact HB.out))) : w.heap.size ≤ gb116)); have n5_ := Aside0.mk ((by rw [hg]; exact Nat.ne_of_lt (blk_lt (g := gb110) (o := .cells #[.int .i64 ((rd_T27 l3 x36_2).f0), .int .i64 ((rd_T27 l3 x36_2).f1), .bool ((rd_T27 l3 x36_2).f2)] 27 (0, 0)) (by (with_reducible repeat (first | refine blk_drewN ?_ _ | refine blk_drew ?_ | refine blk_alloc ?_ _)); exact BK110.out)) : gb110 ≠ gb116)); have n6_ := Aside0.mk ((by rw [hg]; exact Nat.ne_of_gt (blk_lt (g := gb110) (o := .cells #[.int .i64 ((rd_T27 l3 x36_2).f0), .int .i64 ((rd_T27 l3 x36_2).f1), .bool ((rd_T27 l3 x36_2).f2)] 27 (0, 0)) (by (with_reducible repeat (first | refine blk_drewN ?_ _ | refine blk_drew ?_ | refine blk_alloc ?_ _)); exact BK110.out)) : gb116 ≠ gb110)); clear BK110; clear HB; have BK110 := n0_; have HB := n1_; have BK116 := n2_; have GW116 := n3_; have GE116 := n4_; have NB110_116 := n5_; have NB116_110 := n6_; clear n0_ n1_ n2_ n3_ n4_ n5_ n6_; clear hb hbox hg; have hnb35 := NB116_110.out; have hnc35 := NB110_116.out; have hcz36_0 : w34.cell? ⟨gb116, 0, none⟩ = some (.int .i64 0) := (blk_cell BK116.out 0).trans rfl; have hcz36_1 : w34.cell? ⟨gb116, 1, none⟩ = some (.int .i64 0) := (blk_cell BK116.out 1).trans rfl; have hcz36_2 : w34.cell? ⟨gb116, 2, none⟩ = some (.bool false) := (blk_cell BK116.out 2).trans rfl; have hfz36_0 := blk_frozen BK116.out 0; have hfz36_1 := blk_frozen BK116.out 1; have hfz36_2 := blk_frozen BK116.out 2; have hcz37_0 : w34.cell? ⟨gb110, 0, none⟩ = some (.int .i64 ((rd_T27 l3 x36_2).f0)) := (blk_cell BK110.out 0).trans rfl; have hcz37_1 : w34.cell? ⟨gb110, 1, none⟩ = some (.int .i64 ((rd_T27 l3 x36_2).f1)) := (blk_cell BK110.out 1).trans rfl; have hcz37_2 : w34.cell? ⟨gb110, 2, none⟩ = some (.bool ((rd_T27 l3 x36_2).f2)) := (blk_cell BK110.out 2).trans rfl; have hfz37_0 := blk_frozen BK110.out 0; have hfz37_1 := blk_frozen BK110.out 1; have hfz37_2 := blk_frozen BK110.out 2)); try go_wp2_with (first | ((with_reducible refine gate_dst (N := 15) rfl ?_); refine box_event ?hg (N := 15) ?hd (cs := #[.int .i64 0, .int .i64 0, .bool false]) (t := 27) ?hr ?_; (case hd => rfl); (case hg => rfl); (case hr => first | (go_simp; done) | (go_simp; rfl)); intro gb116 hg w34 hbox hb; have n0_ := Aside0.mk (blk_below (g := gb110) (o := .cells #[.int .i64 ((rd_T27 l3 x36_2).f0), .int .i64 ((rd_T27 l3 x36_2).f1), .bool ((rd_T27 l3 x36_2).f2)] 27 (0, 0)) (by (with_reducible repeat (first | refine blk_drewN ?_ _ | refine blk_drew ?_ | refine blk_alloc ?_ _)); exact BK110.out) hb); have n1_ := Aside0.mk (below_step (by repeat (first | (with_reducible first | exact HB.out | apply below_alloc | apply pw_below_drewN | apply below_drew1 | refine below_set ?_ GE110.out) | exact HB.out)) hb); have n2_ := Aside0.mk (hbox); have n3_ := Aside0.mk ((by rw [hg]; exact (below_size (by repeat (first | (with_reducible first | exact HB.out | apply below_alloc | apply pw_below_drewN | apply below_drew1 | refine below_set ?_ GE110.out) | exact HB.out))) : w.heap.size ≤ gb116)); have n4_ := Aside0.mk ((by rw [hg]; exact (below_size (by repeat (first | (with_reducible first | exact HB.out | apply below_alloc | apply pw_below_drewN | apply below_drew1 | refine below_set ?_ GE110.out) | exact HB.out))) : w.heap.size ≤ gb116)); have n5_ := Aside0.mk ((by rw [hg]; exact Nat.ne_of_lt (blk_lt (g := gb110) (o := .cells #[.int .i64 ((rd_T27 l3 x36_2).f0), .int .i64 ((rd_T27 l3 x36_2).f1), .bool ((rd_T27 l3 x36_2).f2)] 27 (0, 0)) (by (with_reducible repeat (first | refine blk_drewN ?_ _ | refine blk_drew ?_ | refine blk_alloc ?_ _)); exact BK110.out)) : gb110 ≠ gb116)); have n6_ := Aside0.mk ((by rw [hg]; exact Nat.ne_of_gt (blk_lt (g := gb110) (o := .cells #[.int .i64 ((rd_T27 l3 x36_2).f0), .int .i64 ((rd_T27 l3 x36_2).f1), .bool ((rd_T27 l3 x36_2).f2)] 27 (0, 0)) (by (with_reducible repeat (first | refine blk_drewN ?_ _ | refine blk_drew ?_ | refine blk_alloc ?_ _)); exact BK110.out)) : gb116 ≠ gb110)); clear BK110; clear HB; have BK110 := n0_; have HB := n1_; have BK116 := n2_; have GW116 := n3_; have GE116 := n4_; have NB110_116 := n5_; have NB116_110 := n6_; clear n0_ n1_ n2_ n3_ n4_ n5_ n6_; clear hb hbox hg; have hnb35 := NB116_110.out; have hnc35 := NB110_116.out; have hcz36_0 : w34.cell? ⟨gb116, 0, none⟩ = some (.int .i64 0) := (blk_cell BK116.out 0).trans rfl; have hcz36_1 : w34.cell? ⟨gb116, 1, none⟩ = some (.int .i64 0) := (blk_cell BK116.out 1).trans rfl; have hcz36_2 : w34.cell? ⟨gb116, 2, none⟩ = some (.bool false) := (blk_cell BK116.out 2).trans rfl; have hfz36_0 := blk_frozen BK116.out 0; have hfz36_1 := blk_frozen BK116.out 1; have hfz36_2 := blk_frozen BK116.out 2; have hcz37_0 : w34.cell? ⟨gb110, 0, none⟩ = some (.int .i64 ((rd_T27 l3 x36_2).f0)) := (blk_cell BK110.out 0).trans rfl; have hcz37_1 : w34.cell? ⟨gb110, 1, none⟩ = some (.int .i64 ((rd_T27 l3 x36_2).f1)) := (blk_cell BK110.out 1).trans rfl; have hcz37_2 : w34.cell? ⟨gb110, 2, none⟩ = some (.bool ((rd_T27 l3 x36_2).f2)) := (blk_cell BK110.out 2).trans rfl; have hfz37_0 := blk_frozen BK110.out 0; have hfz37_1 := blk_frozen BK110.out 1; have hfz37_2 := blk_frozen BK110.out 2)))
                                            go_roundg k4
                                            case measure => have := HJ6.out; have := HK2.out; have := HJ13.out; have := HK4.out; omega
                                            case rel => exact ⟨(wrap64 (x60_4 + 1)), (by first | rfl | (simp; done) | (simp [*]; done)), H', ⟨by have := HJ6.out; have := HK2.out; have := HJ13.out; have := HK4.out; omega⟩, ⟨by (with_reducible repeat (first | refine blk_drewN ?_ _ | refine blk_drew ?_ | refine blk_alloc ?_ _)); refine blk_far ?_ NB110_116.out _; (with_reducible repeat (first | refine blk_drewN ?_ _ | refine blk_drew ?_ | refine blk_alloc ?_ _)); refine blk_far ?_ NB110_116.out _; (with_reducible repeat (first | refine blk_drewN ?_ _ | refine blk_drew ?_ | refine blk_alloc ?_ _)); refine blk_far ?_ NB110_116.out _; (with_reducible repeat (first | refine blk_drewN ?_ _ | refine blk_drew ?_ | refine blk_alloc ?_ _)); exact BK110.out⟩, ⟨by repeat (first | (with_reducible first | exact HB.out | apply below_alloc | apply pw_below_drewN | apply below_drew1 | refine below_set ?_ GE110.out | refine below_set ?_ GE116.out) | exact HB.out)⟩⟩
                                        · rw [if_neg c28] at H
                                          exact absurd H (by simp)
                                      · rw [if_neg c27] at H
                                        exact absurd H (by simp)
                                    · rw [if_neg c26] at H
                                      have c26b0 : decide (x60_4 < (y111.length : Int)) = false := decide_eq_false c26
                                      clear c26
                                      by_cases c38 : ((rd_T27 l3 x36_2).f1) > x11_2
                                      · rw [if_pos c38] at H
                                        have c38b0 : decide (x11_2 < ((rd_T27 l3 x36_2).f1)) = true := decide_eq_true c38
                                        clear c38
                                        have H' := Aside0.mk H
                                        clear H
                                        have hcz39_0 : wr.cell? ⟨gb110, 0, none⟩ = some (.int .i64 ((rd_T27 l3 x36_2).f0)) := (blk_cell BK110.out 0).trans rfl
                                        have hcz39_1 : wr.cell? ⟨gb110, 1, none⟩ = some (.int .i64 ((rd_T27 l3 x36_2).f1)) := (blk_cell BK110.out 1).trans rfl
                                        have hcz39_2 : wr.cell? ⟨gb110, 2, none⟩ = some (.bool ((rd_T27 l3 x36_2).f2)) := (blk_cell BK110.out 2).trans rfl
                                        have hfz39_0 := blk_frozen BK110.out 0
                                        have hfz39_1 := blk_frozen BK110.out 1
                                        have hfz39_2 := blk_frozen BK110.out 2
                                        go_wp2
                                        repeat (go_quiet (fail); try go_wp2)
                                        go_roundg k4
                                        case measure => have := HJ6.out; have := HK2.out; have := HJ13.out; have := HK4.out; omega
                                        case rel => exact ⟨(((rd_T27 l3 x36_2).f1)), (wrap64 (x36_2 + 1)), (by first | rfl | (simp; done) | (simp [*]; done)), (by first | rfl | (simp; done) | (simp [*]; done)), H', ⟨by have := HJ6.out; have := HK2.out; have := HJ13.out; have := HK4.out; omega⟩, ⟨by repeat (first | (with_reducible first | exact HB.out | apply below_alloc | apply pw_below_drewN | apply below_drew1 | refine below_set ?_ GE110.out) | exact HB.out)⟩⟩
                                      · rw [if_neg c38] at H
                                        have c38b0 : decide (x11_2 < ((rd_T27 l3 x36_2).f1)) = false := decide_eq_false c38
                                        clear c38
                                        have H' := Aside0.mk H
                                        clear H
                                        have hcz40_0 : wr.cell? ⟨gb110, 0, none⟩ = some (.int .i64 ((rd_T27 l3 x36_2).f0)) := (blk_cell BK110.out 0).trans rfl
                                        have hcz40_1 : wr.cell? ⟨gb110, 1, none⟩ = some (.int .i64 ((rd_T27 l3 x36_2).f1)) := (blk_cell BK110.out 1).trans rfl
                                        have hcz40_2 : wr.cell? ⟨gb110, 2, none⟩ = some (.bool ((rd_T27 l3 x36_2).f2)) := (blk_cell BK110.out 2).trans rfl
                                        have hfz40_0 := blk_frozen BK110.out 0
                                        have hfz40_1 := blk_frozen BK110.out 1
                                        have hfz40_2 := blk_frozen BK110.out 2
                                        go_wp2
                                        repeat (go_quiet (fail); try go_wp2)
                                        go_roundg k4
                                        case measure => have := HJ6.out; have := HK2.out; have := HJ13.out; have := HK4.out; omega
                                        case rel => exact ⟨(x11_2), (wrap64 (x36_2 + 1)), (by first | rfl | (simp; done) | (simp [*]; done)), (by first | rfl | (simp; done) | (simp [*]; done)), H', ⟨by have := HJ6.out; have := HK2.out; have := HJ13.out; have := HK4.out; omega⟩, ⟨by repeat (first | (with_reducible first | exact HB.out | apply below_alloc | apply pw_below_drewN | apply below_drew1 | refine below_set ?_ GE110.out) | exact HB.out)⟩⟩
                              · rw [if_neg c24] at H
                                exact absurd H (by simp)
                            · rw [if_neg c23] at H
                              exact absurd H (by simp)
                    · rw [if_neg c13] at H
                      exact absurd H (by simp)
                  · rw [if_neg c12] at H
                    exact absurd H (by simp)
                · rw [if_neg c11] at H
                  have c11b0 : decide (x36_2 < (l3.length : Int)) = false := decide_eq_false c11
                  clear c11
                  have HC41 := Aside0.mk H
                  clear H
                  go_upto_region 20 with (fail)
                  repeat (go_quiet (fail); go_upto_region 20 with (fail))
                  go_cut [92] (fun v92 wc => ∃ (kq : Nat) (x92_40 : Bool), v92 = .bool x92_40 ∧ Aside0 (flotillaref12_Ready.j4 kq a0 l3 x11_2 x92_40 = some (r1, r2, r3)) ∧ Aside0 (kq ≤ k2) ∧ Aside0 (Below w.heap.size w wc))
                  case first =>
                    have H := HC41.out
                    clear HC41
                    by_cases c42 : (l3.length : Int) < (wrap64 ((wrap64 (Int.tdiv (wrap64 (a0 - 1)) 2)) + 1))
                    · rw [if_pos c42] at H
                      have c42b0 : decide ((l3.length : Int) < (wrap64 ((wrap64 (Int.tdiv (wrap64 (a0 - 1)) 2)) + 1))) = true := decide_eq_true c42
                      clear c42
                      (first | rw [c42b0] | (simp only [i64_w, i32_w]; rw [c42b0]) | skip)
                      have H' := Aside0.mk H
                      clear H
                      go_wp2
                      repeat (go_quiet (fail); try go_wp2)
                      go_meet
                      case rel => exact ⟨_, (true), (by first | rfl | (simp; done) | (simp [*]; done)), H', ⟨by have := HJ6.out; have := HK2.out; first | omega | exact Nat.le_refl _⟩, ⟨by repeat (first | (with_reducible first | exact HB.out | apply below_alloc | apply pw_below_drewN | apply below_drew1) | exact HB.out)⟩⟩
                    · rw [if_neg c42] at H
                      have c42b0 : decide ((l3.length : Int) < (wrap64 ((wrap64 (Int.tdiv (wrap64 (a0 - 1)) 2)) + 1))) = false := decide_eq_false c42
                      clear c42
                      (first | rw [c42b0] | (simp only [i64_w, i32_w]; rw [c42b0]) | skip)
                      by_cases c43 : x11_2 < 0
                      · rw [if_pos c43] at H
                        have c43b0 : decide (x11_2 < 0) = true := decide_eq_true c43
                        clear c43
                        have H' := Aside0.mk H
                        clear H
                        go_wp2
                        repeat (go_quiet (fail); try go_wp2)
                        go_meet
                        case rel => exact ⟨_, (true), (by first | rfl | (simp; done) | (simp [*]; done)), H', ⟨by have := HJ6.out; have := HK2.out; first | omega | exact Nat.le_refl _⟩, ⟨by repeat (first | (with_reducible first | exact HB.out | apply below_alloc | apply pw_below_drewN | apply below_drew1) | exact HB.out)⟩⟩
                      · rw [if_neg c43] at H
                        have c43b0 : decide (x11_2 < 0) = false := decide_eq_false c43
                        clear c43
                        have H' := Aside0.mk H
                        clear H
                        go_wp2
                        repeat (go_quiet (fail); try go_wp2)
                        go_meet
                        case rel => exact ⟨_, (decide (x11_2 < a2)), (by first | rfl | (simp; done) | (simp [*]; done)), H', ⟨by have := HJ6.out; have := HK2.out; first | omega | exact Nat.le_refl _⟩, ⟨by repeat (first | (with_reducible first | exact HB.out | apply below_alloc | apply pw_below_drewN | apply below_drew1) | exact HB.out)⟩⟩
                  case rest =>
                    clear HC41
                    try clear c1
                    try clear p1
                    try clear q1
                    try clear hx1
                    try clear qi1
                    try clear c2
                    try clear p2
                    try clear q2
                    try clear c3
                    try clear c4
                    try clear c6
                    try clear p6
                    try clear c8
                    try clear c8b0
                    try clear c9
                    try clear c10
                    try clear c10b0
                    try clear c10b1
                    try clear p10
                    try clear q10
                    try clear hx10
                    try clear qi10
                    try clear c11
                    try clear c11b0
                    try clear p11
                    try clear q11
                    try clear hx11
                    try clear c12
                    try clear c12b0
                    try clear c13
                    try clear c13b0
                    try clear c17
                    try clear c17b0
                    try clear c19
                    try clear c19b0
                    try clear c22
                    try clear c23
                    try clear c23b0
                    try clear c23b1
                    try clear c24
                    try clear c24b0
                    try clear c24b1
                    try clear q25
                    try clear c26
                    try clear c26b0
                    try clear c27
                    try clear c27b0
                    try clear c28
                    try clear c28b0
                    try clear c29
                    try clear c29b0
                    try clear c29b1
                    try clear c31
                    try clear c35
                    try clear c38
                    try clear c38b0
                    try clear c42
                    try clear c42b0
                    try clear c43
                    try clear c43b0
                    try clear hcz16_0
                    try clear hcz16_1
                    try clear hcz16_2
                    try clear hcz18_0
                    try clear hcz18_1
                    try clear hcz18_2
                    try clear hcz20_0
                    try clear hcz20_1
                    try clear hcz20_2
                    try clear hcz21_0
                    try clear hcz21_1
                    try clear hcz21_2
                    try clear hcz32_0
                    try clear hcz32_1
                    try clear hcz32_2
                    try clear hcz33_0
                    try clear hcz33_1
                    try clear hcz33_2
                    try clear hcz36_0
                    try clear hcz36_1
                    try clear hcz36_2
                    try clear hcz37_0
                    try clear hcz37_1
                    try clear hcz37_2
                    try clear hcz39_0
                    try clear hcz39_1
                    try clear hcz39_2
                    try clear hcz40_0
                    try clear hcz40_1
                    try clear hcz40_2
                    try clear hfz16_0
                    try clear hfz16_1
                    try clear hfz16_2
                    try clear hfz18_0
                    try clear hfz18_1
                    try clear hfz18_2
                    try clear hfz20_0
                    try clear hfz20_1
                    try clear hfz20_2
                    try clear hfz21_0
                    try clear hfz21_1
                    try clear hfz21_2
                    try clear hfz32_0
                    try clear hfz32_1
                    try clear hfz32_2
                    try clear hfz33_0
                    try clear hfz33_1
                    try clear hfz33_2
                    try clear hfz36_0
                    try clear hfz36_1
                    try clear hfz36_2
                    try clear hfz37_0
                    try clear hfz37_1
                    try clear hfz37_2
                    try clear hfz39_0
                    try clear hfz39_1
                    try clear hfz39_2
                    try clear hfz40_0
                    try clear hfz40_1
                    try clear hfz40_2
                    try clear hx108_0
                    try clear hx108_1
                    try clear hx108_2
                    try clear hx109_0
                    try clear hx109_1
                    try clear hx109_2
                    try clear hx115_0
                    try clear hx115_1
                    try clear hx115_2
                    try clear p1
                    try clear p10
                    try clear p108
                    try clear p109
                    try clear p115
                    try clear p2
                    try clear q1
                    try clear q10
                    try clear q108
                    try clear q109
                    try clear q115
                    try clear q2
                    try clear q25
                    obtain ⟨kq, x92_40, rfl, HA, HJ40, HB⟩ := hcut
                    cases kq with
                    | zero => exact absurd HA.out (by simp [flotillaref12_Ready.j4])
                    | succ kj40 =>
                      have H := HA.out
                      clear HA
                      simp only [flotillaref12_Ready.j4] at H
                      by_cases c44 : x92_40 = true
                      · subst c44
                        have H1 : (some (0, false, 0)) = some (r1, r2, r3) := by rw [if_pos rfl] at H; exact H
                        clear H
                        have H := H1
                        clear H1
                        simp only [Option.some.injEq, Prod.mk.injEq] at H
                        obtain ⟨rfl, rfl, rfl⟩ := H
                        go_wp2
                        repeat (go_quiet (fail); try go_wp2)
                        go_ret3
                        exact ⟨by first | rfl | (simp [errW_none, errW_some] <;> rfl) | (simp [*, errW_none, errW_some] <;> rfl), by repeat (first | (with_reducible first | exact HB.out | apply below_alloc | apply pw_below_drewN | apply below_drew1) | exact HB.out)⟩
                      · replace c44 := Bool.eq_false_iff.mpr c44
                        subst c44
                        have H1 : (flotillaref12_Ready.l2 kj40 a0 x11_2 l3 (l3.length : Int) 0) = some (r1, r2, r3) := by rw [if_neg (show ¬ (false = true) by decide)] at H; exact H
                        clear H
                        have H := H1
                        clear H1
                        have H' := Aside0.mk H
                        clear H
                        go_wp2
                        repeat (go_quiet (fail); try go_wp2)
                        go_loopg [95] kj40 (fun kq v95 w' => ∃ (x95_4 : Int), v95 = .int .i64 x95_4 ∧ Aside0 (flotillaref12_Ready.l2 kq a0 x11_2 l3 (l3.length : Int) x95_4 = some (r1, r2, r3)) ∧ Aside0 (kq ≤ kj40) ∧ Aside0 (Below w.heap.size w w'))
                        case atStart => exact ⟨(0), (by first | rfl | (simp; done) | (simp [*]; done)), H', ⟨Nat.le_refl _⟩, ⟨by repeat (first | (with_reducible first | exact HB.out | apply below_alloc | apply pw_below_drewN | apply below_drew1) | exact HB.out)⟩⟩
                        case round =>
                          clear H'
                          try clear c1
                          try clear p1
                          try clear q1
                          try clear hx1
                          try clear qi1
                          try clear c2
                          try clear p2
                          try clear q2
                          try clear c3
                          try clear c4
                          try clear c6
                          try clear p6
                          try clear c8
                          try clear c8b0
                          try clear c9
                          try clear c10
                          try clear c10b0
                          try clear c10b1
                          try clear p10
                          try clear q10
                          try clear hx10
                          try clear qi10
                          try clear c11
                          try clear c11b0
                          try clear p11
                          try clear q11
                          try clear hx11
                          try clear c12
                          try clear c12b0
                          try clear c13
                          try clear c13b0
                          try clear c17
                          try clear c17b0
                          try clear c19
                          try clear c19b0
                          try clear c22
                          try clear c23
                          try clear c23b0
                          try clear c23b1
                          try clear c24
                          try clear c24b0
                          try clear c24b1
                          try clear q25
                          try clear c26
                          try clear c26b0
                          try clear c27
                          try clear c27b0
                          try clear c28
                          try clear c28b0
                          try clear c29
                          try clear c29b0
                          try clear c29b1
                          try clear c31
                          try clear c35
                          try clear c38
                          try clear c38b0
                          try clear c42
                          try clear c42b0
                          try clear c43
                          try clear c43b0
                          try clear c44
                          try clear hcz16_0
                          try clear hcz16_1
                          try clear hcz16_2
                          try clear hcz18_0
                          try clear hcz18_1
                          try clear hcz18_2
                          try clear hcz20_0
                          try clear hcz20_1
                          try clear hcz20_2
                          try clear hcz21_0
                          try clear hcz21_1
                          try clear hcz21_2
                          try clear hcz32_0
                          try clear hcz32_1
                          try clear hcz32_2
                          try clear hcz33_0
                          try clear hcz33_1
                          try clear hcz33_2
                          try clear hcz36_0
                          try clear hcz36_1
                          try clear hcz36_2
                          try clear hcz37_0
                          try clear hcz37_1
                          try clear hcz37_2
                          try clear hcz39_0
                          try clear hcz39_1
                          try clear hcz39_2
                          try clear hcz40_0
                          try clear hcz40_1
                          try clear hcz40_2
                          try clear hfz16_0
                          try clear hfz16_1
                          try clear hfz16_2
                          try clear hfz18_0
                          try clear hfz18_1
                          try clear hfz18_2
                          try clear hfz20_0
                          try clear hfz20_1
                          try clear hfz20_2
                          try clear hfz21_0
                          try clear hfz21_1
                          try clear hfz21_2
                          try clear hfz32_0
                          try clear hfz32_1
                          try clear hfz32_2
                          try clear hfz33_0
                          try clear hfz33_1
                          try clear hfz33_2
                          try clear hfz36_0
                          try clear hfz36_1
                          try clear hfz36_2
                          try clear hfz37_0
                          try clear hfz37_1
                          try clear hfz37_2
                          try clear hfz39_0
                          try clear hfz39_1
                          try clear hfz39_2
                          try clear hfz40_0
                          try clear hfz40_1
                          try clear hfz40_2
                          try clear hx108_0
                          try clear hx108_1
                          try clear hx108_2
                          try clear hx109_0
                          try clear hx109_1
                          try clear hx109_2
                          try clear hx115_0
                          try clear hx115_1
                          try clear hx115_2
                          try clear p1
                          try clear p10
                          try clear p108
                          try clear p109
                          try clear p11
                          try clear p115
                          try clear p2
                          try clear p6
                          try clear q1
                          try clear q10
                          try clear q108
                          try clear q109
                          try clear q11
                          try clear q115
                          try clear q2
                          try clear q25
                          obtain ⟨x95_4, rfl, HA, HK4, HB⟩ := hrel
                          cases gk with
                          | zero => exact absurd HA.out (by simp [flotillaref12_Ready.l2])
                          | succ k4 =>
                            have H := HA.out
                            clear HA
                            simp only [flotillaref12_Ready.l2] at H
                            by_cases c45 : x95_4 < (l3.length : Int)
                            · rw [if_pos c45] at H
                              have c45b0 : decide (x95_4 < (l3.length : Int)) = true := decide_eq_true c45
                              clear c45
                              by_cases c46 : 0 ≤ x95_4
                              · rw [if_pos c46] at H
                                have c46b0 : decide (0 ≤ x95_4) = true := decide_eq_true c46
                                clear c46
                                by_cases c47 : x95_4 < (l3.length : Int)
                                · rw [if_pos c47] at H
                                  have c47b0 : decide (x95_4 < (l3.length : Int)) = true := decide_eq_true c47
                                  clear c47
                                  by_cases c48 : a0 = 0
                                  · rw [if_pos c48] at H
                                    exact absurd H (by simp)
                                  · rw [if_neg c48] at H
                                    have c48b0 : (a0 == 0) = false := beq_eq_false_iff_ne.mpr c48
                                    have c48b1 : (a0 != 0) = true := bne_iff_ne.mpr c48
                                    by_cases c49 : ((rd_T27 l3 x95_4).f0) = (Int.tmod x11_2 a0)
                                    · rw [if_pos c49] at H
                                      have c49b0 : (((rd_T27 l3 x95_4).f0) == (Int.tmod x11_2 a0)) = true := beq_iff_eq.mpr c49
                                      have c49b1 : (((rd_T27 l3 x95_4).f0) != (Int.tmod x11_2 a0)) = false := bne_eq_false_iff_eq.mpr c49
                                      clear c49
                                      by_cases c50 : ((rd_T27 l3 x95_4).f1) = x11_2
                                      · rw [if_pos c50] at H
                                        have c50b0 : (((rd_T27 l3 x95_4).f1) == x11_2) = true := beq_iff_eq.mpr c50
                                        have c50b1 : (((rd_T27 l3 x95_4).f1) != x11_2) = false := bne_eq_false_iff_eq.mpr c50
                                        clear c50
                                        obtain ⟨bq51, hbq51⟩ : ∃ b_ : Bool, b_ = ((rd_T27 l3 x95_4).f2) := ⟨_, rfl⟩
                                        replace H : (if bq51 = true then (some (x95_4, true, 0)) else (flotillaref12_Ready.l2 k4 a0 x11_2 l3 (l3.length : Int) (wrap64 (x95_4 + 1)))) = some (r1, r2, r3) := by rw [← hbq51] at H; exact H
                                        have Nbq51 := Aside0.mk hbq51
                                        clear hbq51
                                        by_cases c52 : bq51 = true
                                        · subst c52
                                          have H1 : (some (x95_4, true, 0)) = some (r1, r2, r3) := by rw [if_pos rfl] at H; exact H
                                          clear H
                                          have H := H1
                                          clear H1
                                          simp only [Option.some.injEq, Prod.mk.injEq] at H
                                          obtain ⟨rfl, rfl, rfl⟩ := H
                                          have p117 : 0 ≤ (x95_4 : Int) := of_decide_eq_true (by first | (with_reducible assumption) | assumption)
                                          have q117 : x95_4 < (l3.length : Int) := of_decide_eq_true (by first | (with_reducible assumption) | assumption)
                                          obtain ⟨ad117, e117, hx117_0, hx117_1, hx117_2⟩ := at_T27 HR3.out x95_4 p117 q117
                                          (try rw [← Nbq51.out] at hx117_2)
                                          obtain rfl : ad108 = ad117 := (by injection e117)
                                          replace hx117_0 := (HB.out.cell (World.block_lt_of_cell? w _ hx117_0)).trans hx117_0
                                          replace hx117_1 := (HB.out.cell (World.block_lt_of_cell? w _ hx117_1)).trans hx117_1
                                          replace hx117_2 := (HB.out.cell (World.block_lt_of_cell? w _ hx117_2)).trans hx117_2
                                          replace p117 := eq_true p117
                                          replace q117 := eq_true q117
                                          go_wp2_with (first | ((with_reducible refine gate_dst (N := 17) rfl ?_); refine box_event ?hg (N := 17) ?hd (cs := #[.int .i64 0, .int .i64 0, .bool false]) (t := 27) ?hr ?_; (case hd => rfl); (case hg => rfl); (case hr => first | (go_simp; done) | (go_simp; rfl)); intro gb118 hg w53 hbox hb; have n0_ := Aside0.mk (below_step (by repeat (first | (with_reducible first | exact HB.out | apply below_alloc | apply pw_below_drewN | apply below_drew1) | exact HB.out)) hb); have n1_ := Aside0.mk (hbox); have n2_ := Aside0.mk ((by rw [hg]; exact (below_size (by repeat (first | (with_reducible first | exact HB.out | apply below_alloc | apply pw_below_drewN | apply below_drew1) | exact HB.out))) : w.heap.size ≤ gb118)); have n3_ := Aside0.mk ((by rw [hg]; exact (below_size (by repeat (first | (with_reducible first | exact HB.out | apply below_alloc | apply pw_below_drewN | apply below_drew1) | exact HB.out))) : w.heap.size ≤ gb118)); clear HB; have HB := n0_; have BK118 := n1_; have GW118 := n2_; have GE118 := n3_; clear n0_ n1_ n2_ n3_; clear hb hbox hg; have hcz54_0 : w53.cell? ⟨gb118, 0, none⟩ = some (.int .i64 0) := (blk_cell BK118.out 0).trans rfl; have hcz54_1 : w53.cell? ⟨gb118, 1, none⟩ = some (.int .i64 0) := (blk_cell BK118.out 1).trans rfl; have hcz54_2 : w53.cell? ⟨gb118, 2, none⟩ = some (.bool false) := (blk_cell BK118.out 2).trans rfl; have hfz54_0 := blk_frozen BK118.out 0; have hfz54_1 := blk_frozen BK118.out 1; have hfz54_2 := blk_frozen BK118.out 2))
                                          repeat (go_quiet (first | ((with_reducible refine gate_dst (N := 17) rfl ?_); refine box_event ?hg (N := 17) ?hd (cs := #[.int .i64 0, .int .i64 0, .bool false]) (t := 27) ?hr ?_; (case hd => rfl); (case hg => rfl); (case hr => first | (go_simp; done) | (go_simp; rfl)); intro gb118 hg w53 hbox hb; have n0_ := Aside0.mk (below_step (by repeat (first | (with_reducible first | exact HB.out | apply below_alloc | apply pw_below_drewN | apply below_drew1) | exact HB.out)) hb); have n1_ := Aside0.mk (hbox); have n2_ := Aside0.mk ((by rw [hg]; exact (below_size (by repeat (first | (with_reducible first | exact HB.out | apply below_alloc | apply pw_below_drewN | apply below_drew1) | exact HB.out))) : w.heap.size ≤ gb118)); have n3_ := Aside0.mk ((by rw [hg]; exact (below_size (by repeat (first | (with_reducible first | exact HB.out | apply below_alloc | apply pw_below_drewN | apply below_drew1) | exact HB.out))) : w.heap.size ≤ gb118)); clear HB; have HB := n0_; have BK118 := n1_; have GW118 := n2_; have GE118 := n3_; clear n0_ n1_ n2_ n3_; clear hb hbox hg; have hcz54_0 : w53.cell? ⟨gb118, 0, none⟩ = some (.int .i64 0) := (blk_cell BK118.out 0).trans rfl; have hcz54_1 : w53.cell? ⟨gb118, 1, none⟩ = some (.int .i64 0) := (blk_cell BK118.out 1).trans rfl; have hcz54_2 : w53.cell? ⟨gb118, 2, none⟩ = some (.bool false) := (blk_cell BK118.out 2).trans rfl; have hfz54_0 := blk_frozen BK118.out 0; have hfz54_1 := blk_frozen BK118.out 1; have hfz54_2 := blk_frozen BK118.out 2)); try go_wp2_with (first | ((with_reducible refine gate_dst (N := 17) rfl ?_); refine box_event ?hg (N := 17) ?hd (cs := #[.int .i64 0, .int .i64 0, .bool false]) (t := 27) ?hr ?_; (case hd => rfl); (case hg => rfl); (case hr => first | (go_simp; done) | (go_simp; rfl)); intro gb118 hg w53 hbox hb; have n0_ := Aside0.mk (below_step (by repeat (first | (with_reducible first | exact HB.out | apply below_alloc | apply pw_below_drewN | apply below_drew1) | exact HB.out)) hb); have n1_ := Aside0.mk (hbox); have n2_ := Aside0.mk ((by rw [hg]; exact (below_size (by repeat (first | (with_reducible first | exact HB.out | apply below_alloc | apply pw_below_drewN | apply below_drew1) | exact HB.out))) : w.heap.size ≤ gb118)); have n3_ := Aside0.mk ((by rw [hg]; exact (below_size (by repeat (first | (with_reducible first | exact HB.out | apply below_alloc | apply pw_below_drewN | apply below_drew1) | exact HB.out))) : w.heap.size ≤ gb118)); clear HB; have HB := n0_; have BK118 := n1_; have GW118 := n2_; have GE118 := n3_; clear n0_ n1_ n2_ n3_; clear hb hbox hg; have hcz54_0 : w53.cell? ⟨gb118, 0, none⟩ = some (.int .i64 0) := (blk_cell BK118.out 0).trans rfl; have hcz54_1 : w53.cell? ⟨gb118, 1, none⟩ = some (.int .i64 0) := (blk_cell BK118.out 1).trans rfl; have hcz54_2 : w53.cell? ⟨gb118, 2, none⟩ = some (.bool false) := (blk_cell BK118.out 2).trans rfl; have hfz54_0 := blk_frozen BK118.out 0; have hfz54_1 := blk_frozen BK118.out 1; have hfz54_2 := blk_frozen BK118.out 2)))
                                          go_ret3
                                          exact ⟨by first | rfl | (simp [errW_none, errW_some] <;> rfl) | (simp [*, errW_none, errW_some] <;> rfl), by repeat (first | (with_reducible first | exact HB.out | apply below_alloc | apply pw_below_drewN | apply below_drew1 | refine below_set ?_ GE118.out) | exact HB.out)⟩
                                        · replace c52 := Bool.eq_false_iff.mpr c52
                                          subst c52
                                          have H1 : (flotillaref12_Ready.l2 k4 a0 x11_2 l3 (l3.length : Int) (wrap64 (x95_4 + 1))) = some (r1, r2, r3) := by rw [if_neg (show ¬ (false = true) by decide)] at H; exact H
                                          clear H
                                          have H := H1
                                          clear H1
                                          have H' := Aside0.mk H
                                          clear H
                                          have p117 : 0 ≤ (x95_4 : Int) := of_decide_eq_true (by first | (with_reducible assumption) | assumption)
                                          have q117 : x95_4 < (l3.length : Int) := of_decide_eq_true (by first | (with_reducible assumption) | assumption)
                                          obtain ⟨ad117, e117, hx117_0, hx117_1, hx117_2⟩ := at_T27 HR3.out x95_4 p117 q117
                                          (try rw [← Nbq51.out] at hx117_2)
                                          obtain rfl : ad108 = ad117 := (by injection e117)
                                          replace hx117_0 := (HB.out.cell (World.block_lt_of_cell? w _ hx117_0)).trans hx117_0
                                          replace hx117_1 := (HB.out.cell (World.block_lt_of_cell? w _ hx117_1)).trans hx117_1
                                          replace hx117_2 := (HB.out.cell (World.block_lt_of_cell? w _ hx117_2)).trans hx117_2
                                          replace p117 := eq_true p117
                                          replace q117 := eq_true q117
                                          go_wp2_with (first | ((with_reducible refine gate_dst (N := 17) rfl ?_); refine box_event ?hg (N := 17) ?hd (cs := #[.int .i64 0, .int .i64 0, .bool false]) (t := 27) ?hr ?_; (case hd => rfl); (case hg => rfl); (case hr => first | (go_simp; done) | (go_simp; rfl)); intro gb118 hg w55 hbox hb; have n0_ := Aside0.mk (below_step (by repeat (first | (with_reducible first | exact HB.out | apply below_alloc | apply pw_below_drewN | apply below_drew1) | exact HB.out)) hb); have n1_ := Aside0.mk (hbox); have n2_ := Aside0.mk ((by rw [hg]; exact (below_size (by repeat (first | (with_reducible first | exact HB.out | apply below_alloc | apply pw_below_drewN | apply below_drew1) | exact HB.out))) : w.heap.size ≤ gb118)); have n3_ := Aside0.mk ((by rw [hg]; exact (below_size (by repeat (first | (with_reducible first | exact HB.out | apply below_alloc | apply pw_below_drewN | apply below_drew1) | exact HB.out))) : w.heap.size ≤ gb118)); clear HB; have HB := n0_; have BK118 := n1_; have GW118 := n2_; have GE118 := n3_; clear n0_ n1_ n2_ n3_; clear hb hbox hg; have hcz56_0 : w55.cell? ⟨gb118, 0, none⟩ = some (.int .i64 0) := (blk_cell BK118.out 0).trans rfl; have hcz56_1 : w55.cell? ⟨gb118, 1, none⟩ = some (.int .i64 0) := (blk_cell BK118.out 1).trans rfl; have hcz56_2 : w55.cell? ⟨gb118, 2, none⟩ = some (.bool false) := (blk_cell BK118.out 2).trans rfl; have hfz56_0 := blk_frozen BK118.out 0; have hfz56_1 := blk_frozen BK118.out 1; have hfz56_2 := blk_frozen BK118.out 2))
                                          repeat (go_quiet (first | ((with_reducible refine gate_dst (N := 17) rfl ?_); refine box_event ?hg (N := 17) ?hd (cs := #[.int .i64 0, .int .i64 0, .bool false]) (t := 27) ?hr ?_; (case hd => rfl); (case hg => rfl); (case hr => first | (go_simp; done) | (go_simp; rfl)); intro gb118 hg w55 hbox hb; have n0_ := Aside0.mk (below_step (by repeat (first | (with_reducible first | exact HB.out | apply below_alloc | apply pw_below_drewN | apply below_drew1) | exact HB.out)) hb); have n1_ := Aside0.mk (hbox); have n2_ := Aside0.mk ((by rw [hg]; exact (below_size (by repeat (first | (with_reducible first | exact HB.out | apply below_alloc | apply pw_below_drewN | apply below_drew1) | exact HB.out))) : w.heap.size ≤ gb118)); have n3_ := Aside0.mk ((by rw [hg]; exact (below_size (by repeat (first | (with_reducible first | exact HB.out | apply below_alloc | apply pw_below_drewN | apply below_drew1) | exact HB.out))) : w.heap.size ≤ gb118)); clear HB; have HB := n0_; have BK118 := n1_; have GW118 := n2_; have GE118 := n3_; clear n0_ n1_ n2_ n3_; clear hb hbox hg; have hcz56_0 : w55.cell? ⟨gb118, 0, none⟩ = some (.int .i64 0) := (blk_cell BK118.out 0).trans rfl; have hcz56_1 : w55.cell? ⟨gb118, 1, none⟩ = some (.int .i64 0) := (blk_cell BK118.out 1).trans rfl; have hcz56_2 : w55.cell? ⟨gb118, 2, none⟩ = some (.bool false) := (blk_cell BK118.out 2).trans rfl; have hfz56_0 := blk_frozen BK118.out 0; have hfz56_1 := blk_frozen BK118.out 1; have hfz56_2 := blk_frozen BK118.out 2)); try go_wp2_with (first | ((with_reducible refine gate_dst (N := 17) rfl ?_); refine box_event ?hg (N := 17) ?hd (cs := #[.int .i64 0, .int .i64 0, .bool false]) (t := 27) ?hr ?_; (case hd => rfl); (case hg => rfl); (case hr => first | (go_simp; done) | (go_simp; rfl)); intro gb118 hg w55 hbox hb; have n0_ := Aside0.mk (below_step (by repeat (first | (with_reducible first | exact HB.out | apply below_alloc | apply pw_below_drewN | apply below_drew1) | exact HB.out)) hb); have n1_ := Aside0.mk (hbox); have n2_ := Aside0.mk ((by rw [hg]; exact (below_size (by repeat (first | (with_reducible first | exact HB.out | apply below_alloc | apply pw_below_drewN | apply below_drew1) | exact HB.out))) : w.heap.size ≤ gb118)); have n3_ := Aside0.mk ((by rw [hg]; exact (below_size (by repeat (first | (with_reducible first | exact HB.out | apply below_alloc | apply pw_below_drewN | apply below_drew1) | exact HB.out))) : w.heap.size ≤ gb118)); clear HB; have HB := n0_; have BK118 := n1_; have GW118 := n2_; have GE118 := n3_; clear n0_ n1_ n2_ n3_; clear hb hbox hg; have hcz56_0 : w55.cell? ⟨gb118, 0, none⟩ = some (.int .i64 0) := (blk_cell BK118.out 0).trans rfl; have hcz56_1 : w55.cell? ⟨gb118, 1, none⟩ = some (.int .i64 0) := (blk_cell BK118.out 1).trans rfl; have hcz56_2 : w55.cell? ⟨gb118, 2, none⟩ = some (.bool false) := (blk_cell BK118.out 2).trans rfl; have hfz56_0 := blk_frozen BK118.out 0; have hfz56_1 := blk_frozen BK118.out 1; have hfz56_2 := blk_frozen BK118.out 2)))
                                          go_roundg k4
                                          case measure => have := HJ6.out; have := HK2.out; have := HJ40.out; have := HK4.out; omega
                                          case rel => exact ⟨(wrap64 (x95_4 + 1)), (by first | rfl | (simp; done) | (simp [*]; done)), H', ⟨by have := HJ6.out; have := HK2.out; have := HJ40.out; have := HK4.out; omega⟩, ⟨by repeat (first | (with_reducible first | exact HB.out | apply below_alloc | apply pw_below_drewN | apply below_drew1 | refine below_set ?_ GE118.out) | exact HB.out)⟩⟩
                                      · rw [if_neg c50] at H
                                        have c50b0 : (((rd_T27 l3 x95_4).f1) == x11_2) = false := beq_eq_false_iff_ne.mpr c50
                                        have c50b1 : (((rd_T27 l3 x95_4).f1) != x11_2) = true := bne_iff_ne.mpr c50
                                        have H' := Aside0.mk H
                                        clear H
                                        have p117 : 0 ≤ (x95_4 : Int) := of_decide_eq_true (by first | (with_reducible assumption) | assumption)
                                        have q117 : x95_4 < (l3.length : Int) := of_decide_eq_true (by first | (with_reducible assumption) | assumption)
                                        obtain ⟨ad117, e117, hx117_0, hx117_1, hx117_2⟩ := at_T27 HR3.out x95_4 p117 q117
                                        obtain rfl : ad108 = ad117 := (by injection e117)
                                        replace hx117_0 := (HB.out.cell (World.block_lt_of_cell? w _ hx117_0)).trans hx117_0
                                        replace hx117_1 := (HB.out.cell (World.block_lt_of_cell? w _ hx117_1)).trans hx117_1
                                        replace hx117_2 := (HB.out.cell (World.block_lt_of_cell? w _ hx117_2)).trans hx117_2
                                        replace p117 := eq_true p117
                                        replace q117 := eq_true q117
                                        go_wp2_with (first | ((with_reducible refine gate_dst (N := 17) rfl ?_); refine box_event ?hg (N := 17) ?hd (cs := #[.int .i64 0, .int .i64 0, .bool false]) (t := 27) ?hr ?_; (case hd => rfl); (case hg => rfl); (case hr => first | (go_simp; done) | (go_simp; rfl)); intro gb118 hg w57 hbox hb; have n0_ := Aside0.mk (below_step (by repeat (first | (with_reducible first | exact HB.out | apply below_alloc | apply pw_below_drewN | apply below_drew1) | exact HB.out)) hb); have n1_ := Aside0.mk (hbox); have n2_ := Aside0.mk ((by rw [hg]; exact (below_size (by repeat (first | (with_reducible first | exact HB.out | apply below_alloc | apply pw_below_drewN | apply below_drew1) | exact HB.out))) : w.heap.size ≤ gb118)); have n3_ := Aside0.mk ((by rw [hg]; exact (below_size (by repeat (first | (with_reducible first | exact HB.out | apply below_alloc | apply pw_below_drewN | apply below_drew1) | exact HB.out))) : w.heap.size ≤ gb118)); clear HB; have HB := n0_; have BK118 := n1_; have GW118 := n2_; have GE118 := n3_; clear n0_ n1_ n2_ n3_; clear hb hbox hg; have hcz58_0 : w57.cell? ⟨gb118, 0, none⟩ = some (.int .i64 0) := (blk_cell BK118.out 0).trans rfl; have hcz58_1 : w57.cell? ⟨gb118, 1, none⟩ = some (.int .i64 0) := (blk_cell BK118.out 1).trans rfl; have hcz58_2 : w57.cell? ⟨gb118, 2, none⟩ = some (.bool false) := (blk_cell BK118.out 2).trans rfl; have hfz58_0 := blk_frozen BK118.out 0; have hfz58_1 := blk_frozen BK118.out 1; have hfz58_2 := blk_frozen BK118.out 2))
                                        repeat (go_quiet (first | ((with_reducible refine gate_dst (N := 17) rfl ?_); refine box_event ?hg (N := 17) ?hd (cs := #[.int .i64 0, .int .i64 0, .bool false]) (t := 27) ?hr ?_; (case hd => rfl); (case hg => rfl); (case hr => first | (go_simp; done) | (go_simp; rfl)); intro gb118 hg w57 hbox hb; have n0_ := Aside0.mk (below_step (by repeat (first | (with_reducible first | exact HB.out | apply below_alloc | apply pw_below_drewN | apply below_drew1) | exact HB.out)) hb); have n1_ := Aside0.mk (hbox); have n2_ := Aside0.mk ((by rw [hg]; exact (below_size (by repeat (first | (with_reducible first | exact HB.out | apply below_alloc | apply pw_below_drewN | apply below_drew1) | exact HB.out))) : w.heap.size ≤ gb118)); have n3_ := Aside0.mk ((by rw [hg]; exact (below_size (by repeat (first | (with_reducible first | exact HB.out | apply below_alloc | apply pw_below_drewN | apply below_drew1) | exact HB.out))) : w.heap.size ≤ gb118)); clear HB; have HB := n0_; have BK118 := n1_; have GW118 := n2_; have GE118 := n3_; clear n0_ n1_ n2_ n3_; clear hb hbox hg; have hcz58_0 : w57.cell? ⟨gb118, 0, none⟩ = some (.int .i64 0) := (blk_cell BK118.out 0).trans rfl; have hcz58_1 : w57.cell? ⟨gb118, 1, none⟩ = some (.int .i64 0) := (blk_cell BK118.out 1).trans rfl; have hcz58_2 : w57.cell? ⟨gb118, 2, none⟩ = some (.bool false) := (blk_cell BK118.out 2).trans rfl; have hfz58_0 := blk_frozen BK118.out 0; have hfz58_1 := blk_frozen BK118.out 1; have hfz58_2 := blk_frozen BK118.out 2)); try go_wp2_with (first | ((with_reducible refine gate_dst (N := 17) rfl ?_); refine box_event ?hg (N := 17) ?hd (cs := #[.int .i64 0, .int .i64 0, .bool false]) (t := 27) ?hr ?_; (case hd => rfl); (case hg => rfl); (case hr => first | (go_simp; done) | (go_simp; rfl)); intro gb118 hg w57 hbox hb; have n0_ := Aside0.mk (below_step (by repeat (first | (with_reducible first | exact HB.out | apply below_alloc | apply pw_below_drewN | apply below_drew1) | exact HB.out)) hb); have n1_ := Aside0.mk (hbox); have n2_ := Aside0.mk ((by rw [hg]; exact (below_size (by repeat (first | (with_reducible first | exact HB.out | apply below_alloc | apply pw_below_drewN | apply below_drew1) | exact HB.out))) : w.heap.size ≤ gb118)); have n3_ := Aside0.mk ((by rw [hg]; exact (below_size (by repeat (first | (with_reducible first | exact HB.out | apply below_alloc | apply pw_below_drewN | apply below_drew1) | exact HB.out))) : w.heap.size ≤ gb118)); clear HB; have HB := n0_; have BK118 := n1_; have GW118 := n2_; have GE118 := n3_; clear n0_ n1_ n2_ n3_; clear hb hbox hg; have hcz58_0 : w57.cell? ⟨gb118, 0, none⟩ = some (.int .i64 0) := (blk_cell BK118.out 0).trans rfl; have hcz58_1 : w57.cell? ⟨gb118, 1, none⟩ = some (.int .i64 0) := (blk_cell BK118.out 1).trans rfl; have hcz58_2 : w57.cell? ⟨gb118, 2, none⟩ = some (.bool false) := (blk_cell BK118.out 2).trans rfl; have hfz58_0 := blk_frozen BK118.out 0; have hfz58_1 := blk_frozen BK118.out 1; have hfz58_2 := blk_frozen BK118.out 2)))
                                        go_roundg k4
                                        case measure => have := HJ6.out; have := HK2.out; have := HJ40.out; have := HK4.out; omega
                                        case rel => exact ⟨(wrap64 (x95_4 + 1)), (by first | rfl | (simp; done) | (simp [*]; done)), H', ⟨by have := HJ6.out; have := HK2.out; have := HJ40.out; have := HK4.out; omega⟩, ⟨by repeat (first | (with_reducible first | exact HB.out | apply below_alloc | apply pw_below_drewN | apply below_drew1 | refine below_set ?_ GE118.out) | exact HB.out)⟩⟩
                                    · rw [if_neg c49] at H
                                      have c49b0 : (((rd_T27 l3 x95_4).f0) == (Int.tmod x11_2 a0)) = false := beq_eq_false_iff_ne.mpr c49
                                      have c49b1 : (((rd_T27 l3 x95_4).f0) != (Int.tmod x11_2 a0)) = true := bne_iff_ne.mpr c49
                                      have H' := Aside0.mk H
                                      clear H
                                      have p117 : 0 ≤ (x95_4 : Int) := of_decide_eq_true (by first | (with_reducible assumption) | assumption)
                                      have q117 : x95_4 < (l3.length : Int) := of_decide_eq_true (by first | (with_reducible assumption) | assumption)
                                      obtain ⟨ad117, e117, hx117_0, hx117_1, hx117_2⟩ := at_T27 HR3.out x95_4 p117 q117
                                      obtain rfl : ad108 = ad117 := (by injection e117)
                                      replace hx117_0 := (HB.out.cell (World.block_lt_of_cell? w _ hx117_0)).trans hx117_0
                                      replace hx117_1 := (HB.out.cell (World.block_lt_of_cell? w _ hx117_1)).trans hx117_1
                                      replace hx117_2 := (HB.out.cell (World.block_lt_of_cell? w _ hx117_2)).trans hx117_2
                                      replace p117 := eq_true p117
                                      replace q117 := eq_true q117
                                      go_wp2_with (first | ((with_reducible refine gate_dst (N := 17) rfl ?_); refine box_event ?hg (N := 17) ?hd (cs := #[.int .i64 0, .int .i64 0, .bool false]) (t := 27) ?hr ?_; (case hd => rfl); (case hg => rfl); (case hr => first | (go_simp; done) | (go_simp; rfl)); intro gb118 hg w59 hbox hb; have n0_ := Aside0.mk (below_step (by repeat (first | (with_reducible first | exact HB.out | apply below_alloc | apply pw_below_drewN | apply below_drew1) | exact HB.out)) hb); have n1_ := Aside0.mk (hbox); have n2_ := Aside0.mk ((by rw [hg]; exact (below_size (by repeat (first | (with_reducible first | exact HB.out | apply below_alloc | apply pw_below_drewN | apply below_drew1) | exact HB.out))) : w.heap.size ≤ gb118)); have n3_ := Aside0.mk ((by rw [hg]; exact (below_size (by repeat (first | (with_reducible first | exact HB.out | apply below_alloc | apply pw_below_drewN | apply below_drew1) | exact HB.out))) : w.heap.size ≤ gb118)); clear HB; have HB := n0_; have BK118 := n1_; have GW118 := n2_; have GE118 := n3_; clear n0_ n1_ n2_ n3_; clear hb hbox hg; have hcz60_0 : w59.cell? ⟨gb118, 0, none⟩ = some (.int .i64 0) := (blk_cell BK118.out 0).trans rfl; have hcz60_1 : w59.cell? ⟨gb118, 1, none⟩ = some (.int .i64 0) := (blk_cell BK118.out 1).trans rfl; have hcz60_2 : w59.cell? ⟨gb118, 2, none⟩ = some (.bool false) := (blk_cell BK118.out 2).trans rfl; have hfz60_0 := blk_frozen BK118.out 0; have hfz60_1 := blk_frozen BK118.out 1; have hfz60_2 := blk_frozen BK118.out 2))
                                      repeat (go_quiet (first | ((with_reducible refine gate_dst (N := 17) rfl ?_); refine box_event ?hg (N := 17) ?hd (cs := #[.int .i64 0, .int .i64 0, .bool false]) (t := 27) ?hr ?_; (case hd => rfl); (case hg => rfl); (case hr => first | (go_simp; done) | (go_simp; rfl)); intro gb118 hg w59 hbox hb; have n0_ := Aside0.mk (below_step (by repeat (first | (with_reducible first | exact HB.out | apply below_alloc | apply pw_below_drewN | apply below_drew1) | exact HB.out)) hb); have n1_ := Aside0.mk (hbox); have n2_ := Aside0.mk ((by rw [hg]; exact (below_size (by repeat (first | (with_reducible first | exact HB.out | apply below_alloc | apply pw_below_drewN | apply below_drew1) | exact HB.out))) : w.heap.size ≤ gb118)); have n3_ := Aside0.mk ((by rw [hg]; exact (below_size (by repeat (first | (with_reducible first | exact HB.out | apply below_alloc | apply pw_below_drewN | apply below_drew1) | exact HB.out))) : w.heap.size ≤ gb118)); clear HB; have HB := n0_; have BK118 := n1_; have GW118 := n2_; have GE118 := n3_; clear n0_ n1_ n2_ n3_; clear hb hbox hg; have hcz60_0 : w59.cell? ⟨gb118, 0, none⟩ = some (.int .i64 0) := (blk_cell BK118.out 0).trans rfl; have hcz60_1 : w59.cell? ⟨gb118, 1, none⟩ = some (.int .i64 0) := (blk_cell BK118.out 1).trans rfl; have hcz60_2 : w59.cell? ⟨gb118, 2, none⟩ = some (.bool false) := (blk_cell BK118.out 2).trans rfl; have hfz60_0 := blk_frozen BK118.out 0; have hfz60_1 := blk_frozen BK118.out 1; have hfz60_2 := blk_frozen BK118.out 2)); try go_wp2_with (first | ((with_reducible refine gate_dst (N := 17) rfl ?_); refine box_event ?hg (N := 17) ?hd (cs := #[.int .i64 0, .int .i64 0, .bool false]) (t := 27) ?hr ?_; (case hd => rfl); (case hg => rfl); (case hr => first | (go_simp; done) | (go_simp; rfl)); intro gb118 hg w59 hbox hb; have n0_ := Aside0.mk (below_step (by repeat (first | (with_reducible first | exact HB.out | apply below_alloc | apply pw_below_drewN | apply below_drew1) | exact HB.out)) hb); have n1_ := Aside0.mk (hbox); have n2_ := Aside0.mk ((by rw [hg]; exact (below_size (by repeat (first | (with_reducible first | exact HB.out | apply below_alloc | apply pw_below_drewN | apply below_drew1) | exact HB.out))) : w.heap.size ≤ gb118)); have n3_ := Aside0.mk ((by rw [hg]; exact (below_size (by repeat (first | (with_reducible first | exact HB.out | apply below_alloc | apply pw_below_drewN | apply below_drew1) | exact HB.out))) : w.heap.size ≤ gb118)); clear HB; have HB := n0_; have BK118 := n1_; have GW118 := n2_; have GE118 := n3_; clear n0_ n1_ n2_ n3_; clear hb hbox hg; have hcz60_0 : w59.cell? ⟨gb118, 0, none⟩ = some (.int .i64 0) := (blk_cell BK118.out 0).trans rfl; have hcz60_1 : w59.cell? ⟨gb118, 1, none⟩ = some (.int .i64 0) := (blk_cell BK118.out 1).trans rfl; have hcz60_2 : w59.cell? ⟨gb118, 2, none⟩ = some (.bool false) := (blk_cell BK118.out 2).trans rfl; have hfz60_0 := blk_frozen BK118.out 0; have hfz60_1 := blk_frozen BK118.out 1; have hfz60_2 := blk_frozen BK118.out 2)))
                                      go_roundg k4
                                      case measure => have := HJ6.out; have := HK2.out; have := HJ40.out; have := HK4.out; omega
                                      case rel => exact ⟨(wrap64 (x95_4 + 1)), (by first | rfl | (simp; done) | (simp [*]; done)), H', ⟨by have := HJ6.out; have := HK2.out; have := HJ40.out; have := HK4.out; omega⟩, ⟨by repeat (first | (with_reducible first | exact HB.out | apply below_alloc | apply pw_below_drewN | apply below_drew1 | refine below_set ?_ GE118.out) | exact HB.out)⟩⟩
                                · rw [if_neg c47] at H
                                  exact absurd H (by simp)
                              · rw [if_neg c46] at H
                                exact absurd H (by simp)
                            · rw [if_neg c45] at H
                              have c45b0 : decide (x95_4 < (l3.length : Int)) = false := decide_eq_false c45
                              clear c45
                              simp only [Option.some.injEq, Prod.mk.injEq] at H
                              obtain ⟨rfl, rfl, rfl⟩ := H
                              go_wp2
                              repeat (go_quiet (fail); try go_wp2)
                              go_ret3
                              exact ⟨by first | rfl | (simp [errW_none, errW_some] <;> rfl) | (simp [*, errW_none, errW_some] <;> rfl), by repeat (first | (with_reducible first | exact HB.out | apply below_alloc | apply pw_below_drewN | apply below_drew1) | exact HB.out)⟩
          · rw [if_neg c10] at H
            exact absurd H (by simp)
  · replace c6 := Bool.eq_false_iff.mpr c6
    subst c6
    have H1 : (some (0, false, 120)) = some (r1, r2, r3) := by rw [if_neg (show ¬ (false = true) by decide)] at H; exact H
    clear H
    have H := H1
    clear H1
    simp only [Option.some.injEq, Prod.mk.injEq] at H
    obtain ⟨rfl, rfl, rfl⟩ := H
    go_enter Try.func13, Try.ntmps13
    go_wp2_with (first | (go_at_call 20; (with_reducible refine (flotillaref12_sized.calls a0 (l3.length : Int) false _ A5.out).mono ?_); rintro e w' ⟨rfl, ⟨nd, rfl⟩⟩; (try first | exact ⟨rfl, _, World.drewN_drewN _ _ _⟩ | exact ⟨rfl, _, Eq.trans (World.drewN_drewN _ _ _) (congrArg (World.drewN _) (Nat.add_assoc _ _ _))⟩)))
    repeat (go_quiet (first | (go_at_call 20; (with_reducible refine (flotillaref12_sized.calls a0 (l3.length : Int) false _ A5.out).mono ?_); rintro e w' ⟨rfl, ⟨nd, rfl⟩⟩; (try first | exact ⟨rfl, _, World.drewN_drewN _ _ _⟩ | exact ⟨rfl, _, Eq.trans (World.drewN_drewN _ _ _) (congrArg (World.drewN _) (Nat.add_assoc _ _ _))⟩))); try go_wp2_with (first | (go_at_call 20; (with_reducible refine (flotillaref12_sized.calls a0 (l3.length : Int) false _ A5.out).mono ?_); rintro e w' ⟨rfl, ⟨nd, rfl⟩⟩; (try first | exact ⟨rfl, _, World.drewN_drewN _ _ _⟩ | exact ⟨rfl, _, Eq.trans (World.drewN_drewN _ _ _) (congrArg (World.drewN _) (Nat.add_assoc _ _ _))⟩))))
    go_ret3
    exact ⟨by first | rfl | (simp [errW_none, errW_some] <;> rfl) | (simp [*, errW_none, errW_some] <;> rfl), by repeat (first | (with_reducible first | exact HB.out | apply below_alloc | apply pw_below_drewN | apply below_drew1) | exact HB.out)⟩

end Go.Proofs.Ytkgamiojoekegaa.PChooseReady
