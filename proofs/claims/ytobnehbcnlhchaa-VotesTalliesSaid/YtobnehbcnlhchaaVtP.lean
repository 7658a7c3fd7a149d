/- One call on both tallies, held against the document's: the range within a range; any call. Conditions: none. -/
import Derived.Test.YtobnehbcnlhchaaVtO
namespace Go.Proofs.Ytobnehbcnlhchaa.Vt
open Go.RowKit Go.Proofs.Ytobnehbcnlhchaa.Mem
set_option linter.unusedVariables false
set_option linter.unusedSimpArgs false
set_option maxHeartbeats 4000000 in
set_option maxRecDepth 100000 in
theorem step_inside {w : World} {t : TB} {n : Nat} {said : List Int} {spoke : List Bool} (h : Th w t n said spoke) (on who v : Int) (hc : (Lit.int .i64 who).wf = true) : Calls Try.prog 19 #[t.v, stepV 8 on who v] w (StepR w t n) := by
  have HIN := Lib.hid (fun (W : World) (hT : Th W t n said spoke) => inside_ hT who v hc)
  unfold TB.v at HIN
  obtain ⟨w5, hw5⟩ : ∃ w5, (w.alloc (.cells #[.pointer (some ⟨t.a, 0, none⟩), .pointer (some ⟨t.b, 0, none⟩), .pointer (some ⟨t.r, 0, none⟩)] 44 (0, 0))).alloc (.cells #[.int .i64 8, .int .i64 on, .int .i64 who, .int .i64 v] 49 (0, 0)) = w5 := ⟨_, rfl⟩
  have hF : Fr No w w5 := by rw [← hw5]; exact ((Fr.refl _ _).alloc _).alloc _
  obtain ⟨N, hN⟩ : ∃ N, w.heap.size = N := ⟨_, rfl⟩
  have hs1 : (w.alloc (.cells #[.pointer (some ⟨t.a, 0, none⟩), .pointer (some ⟨t.b, 0, none⟩), .pointer (some ⟨t.r, 0, none⟩)] 44 (0, 0))).heap.size = N + 1 := by simp [hN]
  have HB := Lib.hid (show Bk w5 N 44 [.pointer (some ⟨t.a, 0, none⟩), .pointer (some ⟨t.b, 0, none⟩), .pointer (some ⟨t.r, 0, none⟩)] by rw [← hw5, ← hN]; exact (Bk.new w 44 [.pointer (some ⟨t.a, 0, none⟩), .pointer (some ⟨t.b, 0, none⟩), .pointer (some ⟨t.r, 0, none⟩)]).alloc _)
  have HS := Lib.hid (show Bk w5 (N + 1) 49 [.int .i64 8, .int .i64 on, .int .i64 who, .int .i64 v] by rw [← hw5, ← hs1]; exact Bk.new _ 49 [.int .i64 8, .int .i64 on, .int .i64 who, .int .i64 v])
  have HT := Lib.hid (h.fr hF (fun _ _ q => q))
  have HF := Lib.hid hF
  have HLT := Lib.hid (fun k (hk : t.has k) => show k < N by rw [← hN]; exact h.lt hk)
  have HW5 := Lib.hid hw5
  have HN := Lib.hid hN
  unfold TB.v stepV
  clear hF hs1 hw5 hN h hc
  go_enter Try.func19, Try.ntmps19
  go_upto_region 1 with (fail)
  rw [HW5.out, HN.out]
  clear HW5
  obtain ⟨x0, x1, x2, xf⟩ := HB.out.three
  obtain ⟨s0, s1, s2, s3, sf⟩ := HS.out.four
  go_wp2_with fail
  refine (HIN.out w5 HT.out).mono ?_
  rintro e w8 ⟨rfl, ⟨sd, sp, hT8⟩, hF8⟩
  have HT8 := Lib.hid hT8
  have HF8 := Lib.hid hF8
  clear hT8 hF8 x0 x1 x2 xf s0 s1 s2 s3 sf
  go_wp2
  go_ret
  exact ⟨rfl, ⟨_, _, HT8.out⟩, (HF.out.mono (fun _ _ q => q.elim) : Fr t.has w w5).trans HF8.out (fun _ _ q => q)⟩
theorem step_any {w : World} {t : TB} {n : Nat} {said : List Int} {spoke : List Bool} (h : Th w t n said spoke) (kind on who v : Int) (hc : (Lit.int .i64 who).wf = true) (hv : (Lit.int .i64 v).wf = true) : Calls Try.prog 19 #[t.v, stepV kind on who v] w (StepR w t n) := by
  by_cases k1 : kind = 1
  · subst k1; exact step_add h on who v
  by_cases k2 : kind = 2
  · subst k2; exact step_get h on who v
  by_cases k3 : kind = 3
  · subst k3; exact step_drop h on who v
  by_cases k4 : kind = 4
  · subst k4; exact step_count h on who v
  by_cases k5 : kind = 5
  · subst k5; exact step_all h on who v hv
  by_cases k6 : kind = 6
  · subst k6; exact step_clear h on who v
  by_cases k8 : kind = 8
  · subst k8; exact step_inside h on who v hc
  exact step_none h kind on who v ⟨k1, k2, k3, k4, k5, k6, k8⟩
end Go.Proofs.Ytobnehbcnlhchaa.Vt
