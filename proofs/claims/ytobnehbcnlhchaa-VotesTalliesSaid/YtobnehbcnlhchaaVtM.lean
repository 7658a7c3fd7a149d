/- One call on both tallies, held against the document's: All: walked. Conditions: none. -/
import Derived.Test.YtobnehbcnlhchaaVtK
namespace Go.Proofs.Ytobnehbcnlhchaa.Vt
open Go.RowKit Go.Proofs.Ytobnehbcnlhchaa.Mem
set_option linter.unusedVariables false
set_option linter.unusedSimpArgs false
set_option maxHeartbeats 4000000 in
set_option maxRecDepth 100000 in
theorem step_all {w : World} {t : TB} {n : Nat} {said : List Int} {spoke : List Bool} (h : Th w t n said spoke) (on who v : Int) (hv : (Lit.int .i64 v).wf = true) : Calls Try.prog 19 #[t.v, stepV 5 on who v] w (StepR w t n) := by
  obtain ⟨k, hk, hpk⟩ := pickN_lt v 8 (by omega)
  have HP := Lib.hid (fun W => (pick_is v 8 hv (by omega) (by omega) W).mono fun e w' hh => (show e = .returned (.int .i64 (pickN v 8)) ∧ Fr No W w' from ⟨hh.1, by rw [hh.2]; exact Fr.refl _ _⟩))
  obtain ⟨K, hK⟩ : ∃ K, pickN v 8 = K := ⟨_, rfl⟩
  obtain ⟨M, hM⟩ : ∃ M, ((k + 1 : Nat) : Int) = M := ⟨_, rfl⟩
  have hpk : K = (k : Int) := by rw [← hK]; exact hpk
  have hw1 : IntKind.i64.wrap (1 + K) = M := by rw [← hM, IntWalk.i64_in _ (by omega)]; omega
  have HAL := Lib.hid (fun (W : World) (hT : Th W t n said spoke) => thAll hT (k + 1) (by omega) (by omega))
  rw [hM] at HAL
  rw [hK] at HP
  unfold TB.v at HAL
  obtain ⟨w5, hw5⟩ : ∃ w5, (w.alloc (.cells #[.pointer (some ⟨t.a, 0, none⟩), .pointer (some ⟨t.b, 0, none⟩), .pointer (some ⟨t.r, 0, none⟩)] 44 (0, 0))).alloc (.cells #[.int .i64 5, .int .i64 on, .int .i64 who, .int .i64 v] 49 (0, 0)) = w5 := ⟨_, rfl⟩
  have hF : Fr No w w5 := by rw [← hw5]; exact ((Fr.refl _ _).alloc _).alloc _
  obtain ⟨N, hN⟩ : ∃ N, w.heap.size = N := ⟨_, rfl⟩
  have hs1 : (w.alloc (.cells #[.pointer (some ⟨t.a, 0, none⟩), .pointer (some ⟨t.b, 0, none⟩), .pointer (some ⟨t.r, 0, none⟩)] 44 (0, 0))).heap.size = N + 1 := by simp [hN]
  have HB := Lib.hid (show Bk w5 N 44 [.pointer (some ⟨t.a, 0, none⟩), .pointer (some ⟨t.b, 0, none⟩), .pointer (some ⟨t.r, 0, none⟩)] by rw [← hw5, ← hN]; exact (Bk.new w 44 [.pointer (some ⟨t.a, 0, none⟩), .pointer (some ⟨t.b, 0, none⟩), .pointer (some ⟨t.r, 0, none⟩)]).alloc _)
  have HS := Lib.hid (show Bk w5 (N + 1) 49 [.int .i64 5, .int .i64 on, .int .i64 who, .int .i64 v] by rw [← hw5, ← hs1]; exact Bk.new _ 49 [.int .i64 5, .int .i64 on, .int .i64 who, .int .i64 v])
  have HT := Lib.hid (h.fr hF (fun _ _ q => q))
  have HF := Lib.hid hF
  have HLT := Lib.hid (fun k (hk : t.has k) => show k < N by rw [← hN]; exact h.lt hk)
  have HW5 := Lib.hid hw5
  have HN := Lib.hid hN
  unfold TB.v stepV
  clear hpk hK hM hk hF hs1 hw5 hN h
  go_enter Try.func19, Try.ntmps19
  go_upto_region 1 with (fail)
  rw [HW5.out, HN.out]
  clear HW5
  obtain ⟨x0, x1, x2, xf⟩ := HB.out.three
  obtain ⟨s0, s1, s2, s3, sf⟩ := HS.out.four
  go_upto_region 21 with (fail)
  go_region_law (first | (go_simp; go_at_call 15; refine (HP.out _).mono ?_; rintro e wt ⟨rfl, hFt⟩; have hFt : Fr No w5 wt := ((Fr.refl No _).drew).then_ hFt; obtain ⟨y0, y1, y2, yf⟩ := (HB.out.fr hFt id).three; obtain ⟨z0, z1, z2, z3, zf⟩ := (HS.out.fr hFt id).four) | (go_simp; go_at_call 20; refine (HAL.out wt (HT.out.fr hFt (fun _ _ q => q))).mono ?_; rintro e w8 ⟨rfl, hF8⟩))
  all_goals
    have HFt := Lib.hid hFt
    have HF8 := Lib.hid hF8
    have HT8 := Lib.hid ((HT.out.fr hFt (fun _ _ q => q)).fr hF8 (fun _ _ q => q))
    clear hFt hF8 x0 x1 x2 xf s0 s1 s2 s3 sf y0 y1 y2 yf z0 z1 z2 z3 zf
    go_wp2
    go_ret
    exact ⟨by simp; rfl, ⟨_, _, HT8.out⟩, ((HF.out.trans HFt.out (fun _ _ q => q)).trans HF8.out (fun _ _ q => q)).mono (fun _ _ q => q.elim)⟩
end Go.Proofs.Ytobnehbcnlhchaa.Vt
