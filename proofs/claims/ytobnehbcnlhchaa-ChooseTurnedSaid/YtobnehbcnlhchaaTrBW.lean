/- choose.Best, its closures and its helpers: what each call answers. Conditions: lists of at most 1000 places where a list is gone through. -/
import Derived.Test.YtobnehbcnlhchaaTrBR
import Derived.WalkKit
import Derived.Below
import Derived.BigQuiet
import Derived.Deep.QuietTactic
import Derived.Outline
import Derived.OwnWalk
import Derived.StillTailTactics
import Derived.Lib.Hide
namespace Go.Proofs.Ytobnehbcnlhchaa.Be
open Go.RowKit Go.Proofs.YtobnehbcnlhchaaW.PrintWords Go.Proofs.Ytobnehbcnlhchaa.PChooseTurned
set_option linter.unusedVariables false

theorem add_low (a : Addr) (n who : Int) (w : World) (h : who < 0) :
    Calls Try.prog 56 #[.pointer (some a), .int .i64 n, .int .i64 who] w fun e w' => e = .returned (.bool false) ∧ w = w' := by
  go_enter Try.func56, Try.ntmps56
  go_wp2
  go_ret
  exact ⟨rfl, rfl⟩
theorem add_high (a : Addr) (n who : Int) (w : World) (h0 : 0 ≤ who) (h : n ≤ who) :
    Calls Try.prog 56 #[.pointer (some a), .int .i64 n, .int .i64 who] w fun e w' => e = .returned (.bool false) ∧ w = w' := by
  go_enter Try.func56, Try.ntmps56
  go_wp2
  go_ret
  exact ⟨rfl, rfl⟩
theorem add_there (b : Nat) (n : Int) (k : Nat) (w : World) (hk : k < 7) (h : (k : Int) < n) (hc : w.cell? ⟨b, k, none⟩ = some (.bool true)) :
    Calls Try.prog 56 #[.pointer (some ⟨b, 0, none⟩), .int .i64 n, .int .i64 k] w fun e w' => e = .returned (.bool false) ∧ w = w' := by
  go_enter Try.func56, Try.ntmps56
  go_wp2
  go_ret
  exact ⟨rfl, rfl⟩
theorem add_new (b : Nat) (n : Int) (k : Nat) (w : World) (hk : k < 7) (h : (k : Int) < n) (hc : w.cell? ⟨b, k, none⟩ = some (.bool false)) (hf : w.frozen? ⟨b, k, none⟩ = false) :
    Calls Try.prog 56 #[.pointer (some ⟨b, 0, none⟩), .int .i64 n, .int .i64 k] w fun e w' => e = .returned (.bool true) ∧ w.setCell ⟨b, k, none⟩ (.bool true) = w' := by
  go_enter Try.func56, Try.ntmps56
  go_wp2
  go_ret
  exact ⟨rfl, rfl⟩
theorem add_no (b t : Nat) (n : Int) (pre : List S62) (x : S62) (w : World) (hn : n ≤ 7) (hb : w.heap[b]? = some (.cells (hdv pre) t (0, 0))) (h : fresh n pre x = false) :
    Calls Try.prog 56 #[.pointer (some ⟨b, 0, none⟩), .int .i64 n, .int .i64 x.f0] w fun e w' => e = .returned (.bool false) ∧ w = w' := by
  by_cases h0 : x.f0 < 0
  · exact add_low _ _ _ _ h0
  by_cases h1 : n ≤ x.f0
  · exact add_high _ _ _ _ (by omega) h1
  obtain ⟨k, hk⟩ := Int.eq_ofNat_of_zero_le (show 0 ≤ x.f0 by omega)
  have hd1 : hd pre k = true := by
    simp only [fresh, hk] at h
    rw [decide_eq_true (by omega), decide_eq_true (by omega)] at h
    simpa using h
  rw [hk]
  exact add_there b n k w (by omega) (by omega) (by rw [Blk.cell hb, hdv_get _ _ (by omega), hd1])
theorem add_ok (b t : Nat) (n : Int) (pre : List S62) (x : S62) (w : World) (hn : n ≤ 7) (hb : w.heap[b]? = some (.cells (hdv pre) t (0, 0))) (h : fresh n pre x = true) :
    Calls Try.prog 56 #[.pointer (some ⟨b, 0, none⟩), .int .i64 n, .int .i64 x.f0] w fun e w' => e = .returned (.bool true) ∧ w'.heap[b]? = some (.cells (hdv (pre ++ [x])) t (0, 0)) ∧ ∀ B, B ≤ b → Below B w w' := by
  simp only [fresh, Bool.and_eq_true, decide_eq_true_eq, Bool.not_eq_true'] at h
  obtain ⟨⟨h0, h1⟩, h2⟩ := h
  obtain ⟨k, hk⟩ := Int.eq_ofNat_of_zero_le h0
  rw [hk] at h2 h1 ⊢
  rw [Int.toNat_natCast] at h2
  refine (add_new b n k w (by omega) h1 (by rw [Blk.cell hb, hdv_get _ _ (by omega), h2]) (Blk.frozen hb k)).mono ?_
  rintro e w' ⟨rfl, rfl⟩
  refine ⟨rfl, ?_, fun B hB => (Below.refl _ _).setCell hB _⟩
  rw [Blk.set hb, hdv_snoc _ _ _ (by omega) hk]

/-! ### the closures -/
theorem isnan (x : Int) (w : World) : Calls Try.prog 67 #[.int .i64 x] w fun e w' => e = .returned (.bool false) ∧ w = w' := by
  go_enter Try.func67, Try.ntmps67
  go_wp2
  go_ret
  exact ⟨by simp, rfl⟩
def cmpS (a b : Int) : Int := if a < b then -1 else if b < a then 1 else 0
theorem cmp51 (a b : Int) (w : World) : Calls Try.prog 60 #[.int .i64 a, .int .i64 b] w fun e w' => e = .returned (.int .i64 (cmpS a b)) ∧ w' = w := by
  by_cases h1 : a < b
  · have HE := Lib.hid (show cmpS a b = -1 by rw [cmpS, if_pos h1])
    go_enter Try.func60, Try.ntmps60
    go_wp2_with (go_at_call 67; refine (isnan _ _).mono ?_; rintro e w' ⟨rfl, rfl⟩)
    go_ret
    exact ⟨by rw [HE.out]; rfl, rfl⟩
  by_cases h2 : b < a
  · have HE := Lib.hid (show cmpS a b = 1 by rw [cmpS, if_neg h1, if_pos h2])
    go_enter Try.func60, Try.ntmps60
    go_wp2_with (go_at_call 67; refine (isnan _ _).mono ?_; rintro e w' ⟨rfl, rfl⟩)
    go_ret
    exact ⟨by rw [HE.out]; rfl, rfl⟩
  have HE := Lib.hid (show cmpS a b = 0 by rw [cmpS, if_neg h1, if_neg h2])
  go_enter Try.func60, Try.ntmps60
  go_wp2_with (go_at_call 67; refine (isnan _ _).mono ?_; rintro e w' ⟨rfl, rfl⟩)
  go_ret
  exact ⟨by rw [HE.out]; rfl, rfl⟩
/-- the first of two that is not 0 -/
def orS (a b : Int) : Int := if a = 0 then b else a
set_option maxHeartbeats 400000 in
theorem or50 (b : Nat) (c : Nat) (x y : Int) (w : World) (h : w.heap[b]? = some (.cells #[.int .i64 x, .int .i64 y] c (0, 0))) :
    Calls Try.prog 59 #[.slice (some ⟨b, 0, none⟩) 2 2] w fun e w' => e = .returned (.int .i64 (orS x y)) ∧ w = w' := by
  have c0 : w.cell? ⟨b, 0, none⟩ = some (.int .i64 x) := Blk.cell h 0
  have c1 : w.cell? ⟨b, 1, none⟩ = some (.int .i64 y) := Blk.cell h 1
  clear h
  have HE0 := Lib.hid (fun h : x ≠ 0 => show orS x y = x by rw [orS, if_neg h])
  have HE1 := Lib.hid (fun h : x = 0 => show orS x y = y by rw [orS, if_pos h])
  go_enter Try.func59, Try.ntmps59
  go_wp2
  go_loop [8] (fun i => ∃ k : Nat, k ≤ 2 ∧ i = .int .i64 k ∧ Hid ((1 ≤ k → x = 0) ∧ (2 ≤ k → y = 0))) (fun i => 2 - (intOf i).toNat)
  case atStart => exact ⟨0, by omega, rfl, ⟨fun h => absurd h (by omega), fun h => absurd h (by omega)⟩⟩
  case round =>
    obtain ⟨k, hk, rfl, hz⟩ := hrel
    have hk3 : k = 0 ∨ k = 1 ∨ k = 2 := by omega
    rcases hk3 with rfl | rfl | rfl
    · by_cases h0 : x = 0
      · have b1 : (x == 0) = true := beq_iff_eq.mpr h0
        have b2 : (x != 0) = false := bne_eq_false_iff_eq.mpr h0
        have H0 := Lib.hid h0
        clear h0
        go_wp2
        go_round
        case rel => exact ⟨1, by omega, rfl, ⟨fun _ => H0.out, fun h => absurd h (by omega)⟩⟩
        case measure => simp [intOf]
      · have b1 : (x == 0) = false := beq_eq_false_iff_ne.mpr h0
        have b2 : (x != 0) = true := bne_iff_ne.mpr h0
        have H0 := Lib.hid (HE0.out h0)
        clear h0
        go_wp2
        go_ret
        exact ⟨by rw [H0.out]; rfl, rfl⟩
    · have H1 := Lib.hid (HE1.out (hz.out.1 (by omega)))
      by_cases h0 : y = 0
      · have b1 : (y == 0) = true := beq_iff_eq.mpr h0
        have b2 : (y != 0) = false := bne_eq_false_iff_eq.mpr h0
        have H0 := Lib.hid h0
        clear h0
        go_wp2
        go_round
        case rel => exact ⟨2, by omega, rfl, ⟨fun _ => hz.out.1 (by omega), fun _ => H0.out⟩⟩
        case measure => simp [intOf]
      · have b1 : (y == 0) = false := beq_eq_false_iff_ne.mpr h0
        have b2 : (y != 0) = true := bne_iff_ne.mpr h0
        clear h0
        go_wp2
        go_ret
        exact ⟨by rw [H1.out]; rfl, rfl⟩
    · have H1 := Lib.hid ((HE1.out (hz.out.1 (by omega))).trans (hz.out.2 (by omega)))
      go_wp2
      go_ret
      exact ⟨by rw [H1.out]; rfl, rfl⟩

theorem better_or (a b : S62) : decide (0 < orS (cmpS a.f1 b.f1) (cmpS a.f2 b.f2)) = better a b := by
  unfold better orS cmpS
  by_cases h1 : a.f1 < b.f1
  · rw [if_pos h1, if_neg (by decide)]
    have : (a.f1 == b.f1) = false := beq_eq_false_iff_ne.mpr (by omega)
    simp [this]; omega
  · rw [if_neg h1]
    by_cases h2 : b.f1 < a.f1
    · rw [if_pos h2, if_neg (by decide)]; simp [h2]
    · rw [if_neg h2, if_pos rfl]
      have : (a.f1 == b.f1) = true := beq_iff_eq.mpr (by omega)
      rw [this]
      by_cases h3 : a.f2 < b.f2
      · rw [if_pos h3]; simp [h2]; omega
      · rw [if_neg h3]
        by_cases h4 : b.f2 < a.f2
        · rw [if_pos h4]; simp [h4]
        · rw [if_neg h4]; simp [h2, h4]

theorem cl52 (a b : S62) (w : World) :
    Calls Try.prog 61 #[.agg #[.int .i64 a.f0, .int .i64 a.f1, .int .i64 a.f2, .int .i64 a.f3], .agg #[.int .i64 b.f0, .int .i64 b.f1, .int .i64 b.f2, .int .i64 b.f3]] w fun e w' => e = .returned (.bool (moreC a b)) ∧ Below w.heap.size w w' := by
  have HE := Lib.hid (show moreC a b = decide (b.f3 < a.f3) from rfl)
  go_enter Try.func61, Try.ntmps61
  go_wp2
  go_ret
  exact ⟨by rw [HE.out]; rfl, ((Below.refl _ _).alloc (Nat.le_refl _) _).alloc (by simp) _⟩
set_option maxHeartbeats 1000000 in
set_option maxRecDepth 100000 in
theorem cl49 (a b : S62) (w : World) :
    Calls Try.prog 58 #[.agg #[.int .i64 a.f0, .int .i64 a.f1, .int .i64 a.f2, .int .i64 a.f3], .agg #[.int .i64 b.f0, .int .i64 b.f1, .int .i64 b.f2, .int .i64 b.f3]] w fun e w' => e = .returned (.bool (better a b)) ∧ Below w.heap.size w w' := by
  have HE := Lib.hid (better_or a b)
  go_enter Try.func58, Try.ntmps58
  go_wp2
  have hw : ∃ w2, (w.alloc (.cells #[.int .i64 a.f0, .int .i64 a.f1, .int .i64 a.f2, .int .i64 a.f3] 62 (0, 0))).alloc (.cells #[.int .i64 b.f0, .int .i64 b.f1, .int .i64 b.f2, .int .i64 b.f3] 62 (0, 0)) = w2 := ⟨_, rfl⟩
  obtain ⟨w2, hw⟩ := hw
  have hB : Below w.heap.size w w2 := by rw [← hw]; exact ((Below.refl _ _).alloc (Nat.le_refl _) _).alloc (by simp) _
  have ha : w2.heap[w.heap.size]? = some (.cells #[.int .i64 a.f0, .int .i64 a.f1, .int .i64 a.f2, .int .i64 a.f3] 62 (0, 0)) := by rw [← hw]; exact Blk.alloc (Blk.new _ _) _
  have hb : w2.heap[w.heap.size + 1]? = some (.cells #[.int .i64 b.f0, .int .i64 b.f1, .int .i64 b.f2, .int .i64 b.f3] 62 (0, 0)) := by rw [← hw]; simpa using Blk.new (w.alloc (.cells #[.int .i64 a.f0, .int .i64 a.f1, .int .i64 a.f2, .int .i64 a.f3] 62 (0, 0))) _
  have a1 : w2.cell? ⟨w.heap.size, 1, none⟩ = some (.int .i64 a.f1) := Blk.cell ha 1
  have a2 : w2.cell? ⟨w.heap.size, 2, none⟩ = some (.int .i64 a.f2) := Blk.cell ha 2
  have b1 : w2.cell? ⟨w.heap.size + 1, 1, none⟩ = some (.int .i64 b.f1) := Blk.cell hb 1
  have b2 : w2.cell? ⟨w.heap.size + 1, 2, none⟩ = some (.int .i64 b.f2) := Blk.cell hb 2
  rw [hw]
  clear hw ha hb
  go_still_tail 10, (by kernel_rfl)
  still_call (cmp51 _ _ _)
  repeat still_step
  still_call (cmp51 _ _ _)
  refine wpStill_nil ?_
  change wpList _ _ _ _ _ w2.drew
  generalize hw3 : w2.drew = w3
  have hB3 : Below w.heap.size w w3 := by rw [← hw3]; exact hB.drew
  clear hw3 a1 a2 b1 b2 hB
  go_wp2_with fail
  refine (or50 w3.heap.size 3 _ _ _ (Blk.new _ _)).mono ?_
  rintro e w' ⟨rfl, rfl⟩
  go_wp2
  go_ret
  exact ⟨by rw [← HE.out]; rfl, hB3.alloc hB3.size _⟩

set_option maxHeartbeats 1000000 in
set_option maxRecDepth 100000 in
theorem first48_49 (A : Option Addr) (c : Nat) (l : List S62) (w : World) (hl : l.length ≤ 1000) (h : Kd.C k62 w A l.length l) :
    Calls Try.prog 57 #[.slice A l.length c, .func (.func 58) #[] #[]] w fun e w' => e = .returned (.int .i64 (fst better l 0 0 l.length)) ∧ Below w.heap.size w w' := by
  have hC := Lib.hid h
  clear h
  go_enter Try.func57, Try.ntmps57
  go_wp2
  go_loopw [5, 9] (fun bt i wr => ∃ k b : Nat, k ≤ l.length ∧ (b < l.length ∨ l.length = 0) ∧ i = .int .i64 k ∧ bt = .int .i64 b ∧ fst better l k b (l.length - k) = fst better l 0 0 l.length ∧ Below w.heap.size w wr) (fun _ i _ => l.length - (intOf i).toNat)
  case atStart => exact ⟨0, 0, Nat.zero_le _, by omega, rfl, rfl, rfl, Below.refl _ _⟩
  case round =>
    obtain ⟨k, b, hk, hb, rfl, rfl, hm, hB⟩ := hrel
    have HM := Lib.hid hm
    clear hm
    by_cases hlt : k < l.length
    · replace hb : b < l.length := by omega
      obtain ⟨ad, ha, h0, h1, h2, h3⟩ := at_T62 (Kd.C_below hC.out hB) (k : Int) (by omega) (by omega)
      obtain ⟨ad', ha', h0', h1', h2', h3'⟩ := at_T62 (Kd.C_below hC.out hB) (b : Int) (by omega) (by omega)
      subst ha
      obtain rfl := Option.some.inj ha'
      clear ha'
      simp only [Int.toNat_natCast] at h0 h1 h2 h3 h0' h1' h2' h3'
      go_wp2
      go_still_tail 9, (by kernel_rfl)
      change wpList _ _ _ _ _ wr.drew
      generalize hw2 : wr.drew = w2
      go_wp2_with fail
      have hW2 : Below w.heap.size w w2 := by rw [← hw2]; exact hB.drew
      have hms : l.length - k = (l.length - (k + 1)) + 1 := by omega
      have HS := Lib.hid hms
      clear hms
      refine (cl49 (rd_T62 l k) (rd_T62 l b) _).mono ?_
      rintro e w' ⟨rfl, hb3⟩
      have hB3 : Below w.heap.size w w' := hW2.trans (hb3.mono hW2.size)
      clear hb3 hW2 hB h0 h1 h2 h3 h0' h1' h2' h3'
      cases hv : better (rd_T62 l (k : Int)) (rd_T62 l (b : Int)) with
      | true =>
        have HV := Lib.hid (if_pos hv : (if better (rd_T62 l (k : Int)) (rd_T62 l (b : Int)) = true then k else b) = k)
        clear hv
        go_wp2
        go_roundw
        case rel => exact ⟨k + 1, k, by omega, by omega, by go_num, rfl, by rw [← HM.out, HS.out, fst, HV.out], hB3⟩
        case measure => simp [intOf]; omega
      | false =>
        have HV := Lib.hid (if_neg (by rw [hv]; decide) : (if better (rd_T62 l (k : Int)) (rd_T62 l (b : Int)) = true then k else b) = b)
        clear hv
        go_wp2
        go_roundw
        case rel => exact ⟨k + 1, b, by omega, by omega, by go_num, rfl, by rw [← HM.out, HS.out, fst, HV.out], hB3⟩
        case measure => simp [intOf]; omega
    · have hkl : k = l.length := by omega
      have HF : Hid (fst better l 0 0 l.length = b) := by show _ = _; rw [← HM.out, hkl, Nat.sub_self, fst]
      clear hkl
      go_wp2
      go_ret
      exact ⟨by rw [HF.out]; rfl, hB⟩

set_option maxHeartbeats 1000000 in
set_option maxRecDepth 100000 in
theorem first48_52 (A : Option Addr) (c : Nat) (l : List S62) (w : World) (hl : l.length ≤ 1000) (h : Kd.C k62 w A l.length l) :
    Calls Try.prog 57 #[.slice A l.length c, .func (.func 61) #[] #[]] w fun e w' => e = .returned (.int .i64 (fst moreC l 0 0 l.length)) ∧ Below w.heap.size w w' := by
  have hC := Lib.hid h
  clear h
  go_enter Try.func57, Try.ntmps57
  go_wp2
  go_loopw [5, 9] (fun bt i wr => ∃ k b : Nat, k ≤ l.length ∧ (b < l.length ∨ l.length = 0) ∧ i = .int .i64 k ∧ bt = .int .i64 b ∧ fst moreC l k b (l.length - k) = fst moreC l 0 0 l.length ∧ Below w.heap.size w wr) (fun _ i _ => l.length - (intOf i).toNat)
  case atStart => exact ⟨0, 0, Nat.zero_le _, by omega, rfl, rfl, rfl, Below.refl _ _⟩
  case round =>
    obtain ⟨k, b, hk, hb, rfl, rfl, hm, hB⟩ := hrel
    have HM := Lib.hid hm
    clear hm
    by_cases hlt : k < l.length
    · replace hb : b < l.length := by omega
      obtain ⟨ad, ha, h0, h1, h2, h3⟩ := at_T62 (Kd.C_below hC.out hB) (k : Int) (by omega) (by omega)
      obtain ⟨ad', ha', h0', h1', h2', h3'⟩ := at_T62 (Kd.C_below hC.out hB) (b : Int) (by omega) (by omega)
      subst ha
      obtain rfl := Option.some.inj ha'
      clear ha'
      simp only [Int.toNat_natCast] at h0 h1 h2 h3 h0' h1' h2' h3'
      go_wp2
      go_still_tail 9, (by kernel_rfl)
      change wpList _ _ _ _ _ wr.drew
      generalize hw2 : wr.drew = w2
      go_wp2_with fail
      have hW2 : Below w.heap.size w w2 := by rw [← hw2]; exact hB.drew
      have hms : l.length - k = (l.length - (k + 1)) + 1 := by omega
      have HS := Lib.hid hms
      clear hms
      refine (cl52 (rd_T62 l k) (rd_T62 l b) _).mono ?_
      rintro e w' ⟨rfl, hb3⟩
      have hB3 : Below w.heap.size w w' := hW2.trans (hb3.mono hW2.size)
      clear hb3 hW2 hB h0 h1 h2 h3 h0' h1' h2' h3'
      cases hv : moreC (rd_T62 l (k : Int)) (rd_T62 l (b : Int)) with
      | true =>
        have HV := Lib.hid (if_pos hv : (if moreC (rd_T62 l (k : Int)) (rd_T62 l (b : Int)) = true then k else b) = k)
        clear hv
        go_wp2
        go_roundw
        case rel => exact ⟨k + 1, k, by omega, by omega, by go_num, rfl, by rw [← HM.out, HS.out, fst, HV.out], hB3⟩
        case measure => simp [intOf]; omega
      | false =>
        have HV := Lib.hid (if_neg (by rw [hv]; decide) : (if moreC (rd_T62 l (k : Int)) (rd_T62 l (b : Int)) = true then k else b) = b)
        clear hv
        go_wp2
        go_roundw
        case rel => exact ⟨k + 1, b, by omega, by omega, by go_num, rfl, by rw [← HM.out, HS.out, fst, HV.out], hB3⟩
        case measure => simp [intOf]; omega
    · have hkl : k = l.length := by omega
      have HF : Hid (fst moreC l 0 0 l.length = b) := by show _ = _; rw [← HM.out, hkl, Nat.sub_self, fst]
      clear hkl
      go_wp2
      go_ret
      exact ⟨by rw [HF.out]; rfl, hB⟩
end Go.Proofs.Ytobnehbcnlhchaa.Be
