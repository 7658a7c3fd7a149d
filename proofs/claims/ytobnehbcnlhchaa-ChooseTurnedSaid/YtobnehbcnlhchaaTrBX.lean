/- choose.Best: what a call answers. Conditions: none. -/
import Derived.Test.YtobnehbcnlhchaaTrBW
namespace Go.Proofs.Ytobnehbcnlhchaa.Be
open Go.RowKit Go.Proofs.YtobnehbcnlhchaaW.PrintWords Go.Proofs.Ytobnehbcnlhchaa.PChooseTurned
set_option linter.unusedVariables false

theorem quiet0 {P : Program} {f : FuncId} {args : Array Value} {w : World} {n : Nat} {v : Value}
    (h : Calls P f args (w.drewN n) fun e w' => e = .returned v ∧ Drawn0 (w.drewN n) w') : Calls P f args (w.drewN n) fun e w'' => e = .returned v ∧ ∃ m, w'' = w.drewN m :=
  Calls.quiet_of (h.mono fun _ _ ⟨a, b⟩ => ⟨a, b.out⟩)
theorem fleet_f (n : Int) : votes_fleet.f n = some (n == 3 || n == 5 || n == 7) := by
  unfold votes_fleet.f
  by_cases h3 : n = 3
  · subst h3; rfl
  by_cases h5 : n = 5
  · subst h5; rfl
  rw [if_neg h3, if_neg h5, beq_eq_false_iff_ne.mpr h3, beq_eq_false_iff_ne.mpr h5]
  simp
theorem major_f (n : Int) : votes_Majority.f n = some (if n == 3 || n == 5 || n == 7 then (n - 1) / 2 + 1 else 0) := by
  unfold votes_Majority.f votes_Faults.f
  rw [fleet_f]
  by_cases h3 : n = 3
  · subst h3; unfold wrap64; decide
  by_cases h5 : n = 5
  · subst h5; unfold wrap64; decide
  by_cases h7 : n = 7
  · subst h7; unfold wrap64; decide
  have e : (n == 3 || n == 5 || n == 7) = false := by simp [h3, h5, h7]
  rw [e]
  rfl
theorem fits_f (n m : Int) : choose_fits.f n m = some (sized n m) := by
  unfold choose_fits.f sized
  rw [major_f]
  simp only [Option.bind_some]
  by_cases e : (n == 3 || n == 5 || n == 7) = true
  · rw [e, if_pos rfl]
    have : n = 3 ∨ n = 5 ∨ n = 7 := by simpa [or_assoc] using e
    rw [if_pos (by omega)]
    by_cases h1 : m ≥ 1
    · rw [if_pos h1, decide_eq_true (show 1 ≤ m from h1)]; simp
    · rw [if_neg h1, decide_eq_false (show ¬ 1 ≤ m from h1)]; simp
  · rw [Bool.not_eq_true] at e
    rw [e]
    simp

theorem best_size (n : Int) (A : Option Addr) (c : Nat) (l : List S62) (w : World) (h : sized n l.length = false) :
    Calls Try.prog 21 #[.int .i64 n, .slice A l.length c] w fun e w' => e = tup (bestS n l) ∧ Below w.heap.size w w' := by
  have hf := Lib.hid (fits_f n l.length)
  have HE := Lib.hid (best_120 n l h)
  have hs := Lib.hid h
  clear h
  go_enter Try.func21, Try.ntmps21
  go_wp2_with fail
  refine (choose_fits.calls n l.length false _ (by rw [hf.out, hs.out])).mono ?_
  rintro e w' ⟨rfl, hd⟩
  have hB := hd.below
  clear hd
  go_wp2
  go_ret3
  exact ⟨by rw [HE.out]; rfl, hB⟩
set_option maxHeartbeats 1000000 in
set_option maxRecDepth 100000 in
theorem best_go (n : Int) (A : Option Addr) (c : Nat) (l : List S62) (w : World) (hA : Kd.C k62 w A l.length l) (h : sized n l.length = true) :
    Calls Try.prog 21 #[.int .i64 n, .slice A l.length c] w fun e w' => e = tup (bestS n l) ∧ Below w.heap.size w w' := by
  have hf := Lib.hid (fits_f n l.length)
  have hn : n = 3 ∨ n = 5 ∨ n = 7 := by simp [sized] at h; omega
  have hl : 1 ≤ l.length ∧ (l.length : Int) ≤ n := by simp [sized] at h; omega
  have hs := Lib.hid h
  have hC := Lib.hid hA
  clear h hA
  have hn7 : n ≤ 7 := by omega
  have hl1 := hl.1
  have hl2 := hl.2
  have HN := Lib.hid hn
  clear hn hl
  go_enter Try.func21, Try.ntmps21
  go_wp2_with fail
  refine (choose_fits.calls n l.length true _ (by rw [hf.out, hs.out])).mono ?_
  rintro e w' ⟨rfl, hd⟩
  have hB := hd.below
  clear hd
  go_wp2
  have hb2 : (w'.alloc (.cells #[Value.bool false, .bool false, .bool false, .bool false, .bool false, .bool false, .bool false] 116 (0, 0))).heap[w'.heap.size]? = some (.cells (hdv []) 116 (0, 0)) := Blk.new _ _
  have hB2 : Below w.heap.size w (w'.alloc (.cells #[Value.bool false, .bool false, .bool false, .bool false, .bool false, .bool false, .bool false] 116 (0, 0))) := hB.alloc hB.size _
  have hge := hB.size
  generalize w'.alloc (.cells #[Value.bool false, .bool false, .bool false, .bool false, .bool false, .bool false, .bool false] 116 (0, 0)) = w2 at hb2 hB2 ⊢
  generalize w'.heap.size = b at hb2 hge ⊢
  clear hB
  go_loopw [18] (fun i wr => ∃ k : Nat, k ≤ l.length ∧ i = .int .i64 k ∧ Hid (allFresh n (l.take k) (l.drop k) = allFresh n [] l) ∧ Hid (wr.heap[b]? = some (.cells (hdv (l.take k)) 116 (0, 0))) ∧ Below w.heap.size w wr) (fun i _ => l.length - (intOf i).toNat)
  case atStart => exact ⟨0, Nat.zero_le _, rfl, rfl, hb2, hB2⟩
  case round =>
    clear hb2 hB2
    obtain ⟨k, hk, rfl, HA, HB, hB⟩ := hrel
    by_cases hlt : k < l.length
    · obtain ⟨ad, ha, g0, g1, g2, g3⟩ := at_T62 (Kd.C_below hC.out hB) (k : Int) (by omega) (by omega)
      subst ha
      simp only [Int.toNat_natCast] at g0 g1 g2 g3
      by_cases hfr : fresh n (l.take k) (rd_T62 l (k : Int)) = true
      · have HFR := Lib.hid hfr
        clear hfr
        go_wp2_with fail
        refine (add_ok b 116 n (l.take k) (rd_T62 l (k : Int)) _ hn7 (Blk.alloc HB.out _) HFR.out).mono ?_
        rintro e w3 ⟨rfl, hb3, hB3⟩
        have hB' : Below w.heap.size w w3 := (hB.alloc hB.size _).trans (hB3 _ hge)
        have HA' := Lib.hid (af_yes n l k hlt HFR.out HA.out)
        have HB' := Lib.hid (show w3.heap[b]? = some (.cells (hdv (l.take (k + 1))) 116 (0, 0)) by rw [take_at l k hlt]; exact hb3)
        clear hb3 hB3 hB g0 g1 g2 g3
        go_wp2
        go_roundw
        case rel => exact ⟨k + 1, by omega, by go_num, HA', HB', hB'⟩
        case measure => simp [intOf]; omega
      · have HE := Lib.hid (best_121 n l hs.out (af_no n l k hlt (by simpa using hfr) HA.out))
        have HFR := Lib.hid (show fresh n (l.take k) (rd_T62 l (k : Int)) = false by simpa using hfr)
        clear hfr
        go_wp2_with fail
        refine (add_no b 116 n (l.take k) (rd_T62 l (k : Int)) _ hn7 (Blk.alloc HB.out _) HFR.out).mono ?_
        rintro e w3 ⟨rfl, rfl⟩
        go_wp2
        go_ret3
        exact ⟨by rw [HE.out]; rfl, hB.alloc hB.size _⟩
    · obtain rfl : k = l.length := by omega
      have HE := Lib.hid (best_ok n l hs.out (af_end n l HA.out))
      clear HA HB
      go_wp2_with fail
      refine (first48_49 A c l _ (by omega) (Kd.C_below hC.out hB)).mono ?_
      rintro e w3 ⟨rfl, hb3⟩
      have hB3 : Below w.heap.size w w3 := hB.trans (hb3.mono hB.size)
      clear hb3 hB
      go_wp2_with fail
      refine (first48_52 A c l _ (by omega) (Kd.C_below hC.out hB3)).mono ?_
      rintro e w4 ⟨rfl, hb4⟩
      have hB4 : Below w.heap.size w w4 := hB3.trans (hb4.mono hB3.size)
      clear hb4 hB3
      have hml := fst_lt moreC l l.length 0 0 (by omega) (by omega)
      obtain ⟨ad, ha, g0, g1, g2, g3⟩ := at_T62 (Kd.C_below hC.out hB4) (fst moreC l 0 0 l.length : Int) (by omega) (by omega)
      subst ha
      simp only [Int.toNat_natCast] at g0 g1 g2 g3
      go_wp2
      go_quiet (fail)
      go_wp2
      go_ret3
      exact ⟨by rw [HE.out]; rfl, pw_below_drewN hB4 _⟩
theorem best_any (n : Int) (A : Option Addr) (c : Nat) (l : List S62) (w : World) (hA : Kd.C k62 w A l.length l) :
    Calls Try.prog 21 #[.int .i64 n, .slice A l.length c] w fun e w' => e = tup (bestS n l) ∧ Below w.heap.size w w' := by
  cases h : sized n l.length with
  | true => exact best_go n A c l w hA h
  | false => exact best_size n A c l w h
end Go.Proofs.Ytobnehbcnlhchaa.Be
