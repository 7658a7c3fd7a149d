/- choose.Ready, its closures and its helpers: what each call answers. Conditions: lists of at most 1000 places where a list is gone through. -/
import Derived.Test.YtobnehbcnlhchaaTrCR
import Derived.WalkKit
import Derived.Below
import Derived.BigQuiet
import Derived.Deep.QuietTactic
import Derived.Outline
import Derived.OwnWalk
import Derived.StillTailTactics
import Derived.Lib.Hide
namespace Go.Proofs.Ytobnehbcnlhchaa.Ch
open Go.RowKit Go.Proofs.YtobnehbcnlhchaaW.PrintWords Go.Proofs.Ytobnehbcnlhchaa.PChooseTurned
set_option linter.unusedVariables false

theorem add_low (a : Addr) (n who : Int) (w : World) (h : who < 0) :
    Calls Try.prog 56 #[.pointer (some a), .int .i64 n, .int .i64 who] w fun e w' => e = .returned (.bool false) ∧ w = w' := by
  go_enter Try.func56, Try.ntmps56
  go_wp2
  go_ret
  exact ⟨rfl, rfl⟩
theorem add_high (a : Addr) (n who : Int) (w : World) (h0 : 0 ≤ who) (h : n ≤ who) :
    Calls Try.prog 56 #[.pointer (some a), .int .i64 n, .int .i64 who] w fun e w' => e = .returned (.bool false) ∧ w = w' := by
  go_enter Try.func56, Try.ntmps56
  go_wp2
  go_ret
  exact ⟨rfl, rfl⟩
theorem add_there (b : Nat) (n : Int) (k : Nat) (w : World) (hk : k < 7) (h : (k : Int) < n) (hc : w.cell? ⟨b, k, none⟩ = some (.bool true)) :
    Calls Try.prog 56 #[.pointer (some ⟨b, 0, none⟩), .int .i64 n, .int .i64 k] w fun e w' => e = .returned (.bool false) ∧ w = w' := by
  go_enter Try.func56, Try.ntmps56
  go_wp2
  go_ret
  exact ⟨rfl, rfl⟩
theorem add_new (b : Nat) (n : Int) (k : Nat) (w : World) (hk : k < 7) (h : (k : Int) < n) (hc : w.cell? ⟨b, k, none⟩ = some (.bool false)) (hf : w.frozen? ⟨b, k, none⟩ = false) :
    Calls Try.prog 56 #[.pointer (some ⟨b, 0, none⟩), .int .i64 n, .int .i64 k] w fun e w' => e = .returned (.bool true) ∧ w.setCell ⟨b, k, none⟩ (.bool true) = w' := by
  go_enter Try.func56, Try.ntmps56
  go_wp2
  go_ret
  exact ⟨rfl, rfl⟩

/-- refused: out of range, or heard before -/
theorem add_no (b t : Nat) (n me : Int) (pre : List S66) (x : S66) (w : World) (hn : n ≤ 7) (hb : w.heap[b]? = some (.cells (hdv me pre) t (0, 0))) (h : fresh n me pre x = false) :
    Calls Try.prog 56 #[.pointer (some ⟨b, 0, none⟩), .int .i64 n, .int .i64 x.f0] w fun e w' => e = .returned (.bool false) ∧ w = w' := by
  by_cases h0 : x.f0 < 0
  · exact add_low _ _ _ _ h0
  by_cases h1 : n ≤ x.f0
  · exact add_high _ _ _ _ (by omega) h1
  obtain ⟨k, hk⟩ := Int.eq_ofNat_of_zero_le (show 0 ≤ x.f0 by omega)
  have hd1 : hd me pre k = true := by
    simp only [fresh, hk] at h
    rw [decide_eq_true (by omega), decide_eq_true (by omega)] at h
    simpa using h
  rw [hk]
  exact add_there b n k w (by omega) (by omega) (by rw [Blk.cell hb, hdv_get _ _ _ (by omega), hd1])
theorem add_ok (b t : Nat) (n me : Int) (pre : List S66) (x : S66) (w : World) (hn : n ≤ 7) (hb : w.heap[b]? = some (.cells (hdv me pre) t (0, 0))) (h : fresh n me pre x = true) :
    Calls Try.prog 56 #[.pointer (some ⟨b, 0, none⟩), .int .i64 n, .int .i64 x.f0] w fun e w' => e = .returned (.bool true) ∧ w'.heap[b]? = some (.cells (hdv me (pre ++ [x])) t (0, 0)) ∧ ∀ B, B ≤ b → Below B w w' := by
  simp only [fresh, Bool.and_eq_true, decide_eq_true_eq, Bool.not_eq_true'] at h
  obtain ⟨⟨h0, h1⟩, h2⟩ := h
  obtain ⟨k, hk⟩ := Int.eq_ofNat_of_zero_le h0
  rw [hk] at h2 h1 ⊢
  rw [Int.toNat_natCast] at h2
  refine (add_new b n k w (by omega) h1 (by rw [Blk.cell hb, hdv_get _ _ _ (by omega), h2]) (Blk.frozen hb k)).mono ?_
  rintro e w' ⟨rfl, rfl⟩
  refine ⟨rfl, ?_, fun B hB => (Below.refl _ _).setCell hB _⟩
  rw [Blk.set hb, hdv_snoc _ _ _ _ (by omega) hk]

theorem cl17 (a b : S66) (w : World) :
    Calls Try.prog 63 #[.agg #[.int .i64 a.f0, .int .i64 a.f1, .bool a.f2], .agg #[.int .i64 b.f0, .int .i64 b.f1, .bool b.f2]] w fun e w' => e = .returned (.bool (decide (b.f1 < a.f1))) ∧ Below w.heap.size w w' := by
  go_enter Try.func63, Try.ntmps63
  go_wp2
  go_ret
  exact ⟨rfl, ((Below.refl _ _).alloc (Nat.le_refl _) _).alloc (by simp) _⟩

set_option maxHeartbeats 1000000 in
set_option maxRecDepth 100000 in
theorem first16 (A : Option Addr) (c : Nat) (l : List S66) (w : World) (hl : l.length ≤ 1000) (h : Kd.C k66 w A l.length l) :
    Calls Try.prog 62 #[.slice A l.length c, .func (.func 63) #[] #[]] w fun e w' => e = .returned (.int .i64 (maxW l 0 0 l.length)) ∧ Below w.heap.size w w' := by
  have hC := Lib.hid h
  clear h
  go_enter Try.func62, Try.ntmps62
  go_wp2
  go_loopw [5, 9] (fun bt i wr => ∃ k b : Nat, k ≤ l.length ∧ (b < l.length ∨ l.length = 0) ∧ i = .int .i64 k ∧ bt = .int .i64 b ∧ maxW l k b (l.length - k) = maxW l 0 0 l.length ∧ Below w.heap.size w wr) (fun _ i _ => l.length - (intOf i).toNat)
  case atStart => exact ⟨0, 0, Nat.zero_le _, by omega, rfl, rfl, rfl, Below.refl _ _⟩
  case round =>
    obtain ⟨k, b, hk, hb, rfl, rfl, hm, hB⟩ := hrel
    have HM := Lib.hid hm
    clear hm
    by_cases hlt : k < l.length
    · replace hb : b < l.length := by omega
      obtain ⟨ad, ha, h0, h1, h2⟩ := at_T66 (Kd.C_below hC.out hB) (k : Int) (by omega) (by omega)
      obtain ⟨ad', ha', h0', h1', h2'⟩ := at_T66 (Kd.C_below hC.out hB) (b : Int) (by omega) (by omega)
      subst ha
      obtain rfl := Option.some.inj ha'
      clear ha'
      simp only [Int.toNat_natCast] at h0 h1 h2 h0' h1' h2'
      go_wp2
      go_still_tail 9, (by kernel_rfl)
      change wpList _ _ _ _ _ wr.drew
      generalize hw2 : wr.drew = w2
      go_wp2_with fail
      have hW2 : Below w.heap.size w w2 := by rw [← hw2]; exact hB.drew
      have hms : l.length - k = (l.length - (k + 1)) + 1 := by omega
      have HS := Lib.hid hms
      clear hms
      refine (cl17 (rd_T66 l k) (rd_T66 l b) _).mono ?_
      rintro e w' ⟨rfl, hb3⟩
      have hB3 : Below w.heap.size w w' := hW2.trans (hb3.mono hW2.size)
      clear hb3 hW2 hB h0 h1 h2 h0' h1' h2'
      by_cases hv : (rd_T66 l ↑b).f1 < (rd_T66 l ↑k).f1
      · have hd : decide ((rd_T66 l ↑b).f1 < (rd_T66 l ↑k).f1) = true := by simpa using hv
        have HV := Lib.hid (if_pos hv : (if (rd_T66 l ↑b).f1 < (rd_T66 l ↑k).f1 then k else b) = k)
        clear hv
        go_wp2
        go_roundw
        case rel => exact ⟨k + 1, k, by omega, by omega, by go_num, rfl, by rw [← HM.out, HS.out, maxW, HV.out], hB3⟩
        case measure => simp [intOf]; omega
      · have hd : decide ((rd_T66 l ↑b).f1 < (rd_T66 l ↑k).f1) = false := by simpa using hv
        have HV := Lib.hid (if_neg hv : (if (rd_T66 l ↑b).f1 < (rd_T66 l ↑k).f1 then k else b) = b)
        clear hv
        go_wp2
        go_roundw
        case rel => exact ⟨k + 1, b, by omega, by omega, by go_num, rfl, by rw [← HM.out, HS.out, maxW, HV.out], hB3⟩
        case measure => simp [intOf]; omega
    · have hkl : k = l.length := by omega
      have HF : Hid (maxW l 0 0 l.length = b) := by show _ = _; rw [← HM.out, hkl, Nat.sub_self, maxW]
      clear hkl
      go_wp2
      go_ret
      exact ⟨by rw [HF.out]; rfl, hB⟩
end Go.Proofs.Ytobnehbcnlhchaa.Ch
