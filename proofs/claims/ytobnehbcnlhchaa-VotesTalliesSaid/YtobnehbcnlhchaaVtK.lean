/- One call on both tallies, held against the document's: Count, Get, All: walked. Conditions: none. -/
import Derived.Test.YtobnehbcnlhchaaVtJ
namespace Go.Proofs.Ytobnehbcnlhchaa.Vt
open Go.RowKit Go.Proofs.Ytobnehbcnlhchaa.Mem
set_option linter.unusedVariables false
set_option linter.unusedSimpArgs false
structure CountC (n : Nat) (said : List Int) (spoke : List Bool) (c : Int) : Prop where
  i : ∀ w g, VtI.Tl w g n (s7 id 0 said spoke) → Calls Try.prog 31 #[.pointer (some ⟨g, 0, none⟩)] w fun e w' => e = .returned (.int .i64 c) ∧ Fr No w w'
  s : ∀ w g, VtS.Tl w g n (s7 textV ByteArray.empty said spoke) → Calls Try.prog 48 #[.pointer (some ⟨g, 0, none⟩)] w fun e w' => e = .returned (.int .i64 c) ∧ Fr No w w'
  r : ∀ w r s p, RT w r s p n said spoke → Calls Try.prog 47 #[.pointer (some ⟨r, 0, none⟩)] w fun e w' => e = .returned (.int .i64 c) ∧ w' = w
theorem fr_below {w w' : World} (h : Below w.heap.size w w') : Fr No w w' := ⟨h.os, h.tape, h.output, h.size, fun k hk _ => h.block k hk⟩
theorem count_c {n : Nat} {said : List Int} {spoke : List Bool} (h7 : n ≤ 7) (hl2 : spoke.length = n) : ∃ c : Int, CountC n said spoke c := by
  have HLI : (VtI.saidT (s7 id 0 said spoke) 0).length = cnt spoke := by rw [saidI said spoke (by omega), upS_len]
  have HLS : (VtS.saidT (s7 textV ByteArray.empty said spoke) 0).length = cnt spoke := by rw [saidS said spoke (by omega), upS_len]
  refine ⟨cnt spoke, fun w g hT => (VtI.countT g n _ w hT).mono fun e w' hh => ⟨by rw [hh.1, HLI], fr_below hh.2⟩, fun w g hT => (VtS.countT g n _ w hT).mono fun e w' hh => ⟨by rw [hh.1, HLS], fr_below hh.2⟩, fun w r s p hR => rCount_ hR h7⟩
set_option maxHeartbeats 4000000 in
set_option maxRecDepth 100000 in
theorem step_count {w : World} {t : TB} {n : Nat} {said : List Int} {spoke : List Bool} (h : Th w t n said spoke) (on who v : Int) : Calls Try.prog 19 #[t.v, stepV 4 on who v] w (StepR w t n) := by
  obtain ⟨hl1, hl2⟩ := h.r.len
  obtain ⟨c, C⟩ := count_c (said := said) h.hi hl2
  have HC := Lib.hid C
  obtain ⟨w5, hw5⟩ : ∃ w5, (w.alloc (.cells #[.pointer (some ⟨t.a, 0, none⟩), .pointer (some ⟨t.b, 0, none⟩), .pointer (some ⟨t.r, 0, none⟩)] 44 (0, 0))).alloc (.cells #[.int .i64 4, .int .i64 on, .int .i64 who, .int .i64 v] 49 (0, 0)) = w5 := ⟨_, rfl⟩
  have hF : Fr No w w5 := by rw [← hw5]; exact ((Fr.refl _ _).alloc _).alloc _
  obtain ⟨N, hN⟩ : ∃ N, w.heap.size = N := ⟨_, rfl⟩
  have hs1 : (w.alloc (.cells #[.pointer (some ⟨t.a, 0, none⟩), .pointer (some ⟨t.b, 0, none⟩), .pointer (some ⟨t.r, 0, none⟩)] 44 (0, 0))).heap.size = N + 1 := by simp [hN]
  have HB := Lib.hid (show Bk w5 N 44 [.pointer (some ⟨t.a, 0, none⟩), .pointer (some ⟨t.b, 0, none⟩), .pointer (some ⟨t.r, 0, none⟩)] by rw [← hw5, ← hN]; exact (Bk.new w 44 [.pointer (some ⟨t.a, 0, none⟩), .pointer (some ⟨t.b, 0, none⟩), .pointer (some ⟨t.r, 0, none⟩)]).alloc _)
  have HS := Lib.hid (show Bk w5 (N + 1) 49 [.int .i64 4, .int .i64 on, .int .i64 who, .int .i64 v] by rw [← hw5, ← hs1]; exact Bk.new _ 49 [.int .i64 4, .int .i64 on, .int .i64 who, .int .i64 v])
  have HT := Lib.hid (h.fr hF (fun _ _ q => q))
  have HF := Lib.hid hF
  have HLT := Lib.hid (fun k (hk : t.has k) => show k < N by rw [← hN]; exact h.lt hk)
  have HW5 := Lib.hid hw5
  have HN := Lib.hid hN
  unfold TB.v stepV
  clear hl1 hl2 C hF hs1 hw5 hN h
  go_enter Try.func19, Try.ntmps19
  go_upto_region 1 with (fail)
  rw [HW5.out, HN.out]
  clear HW5
  obtain ⟨x0, x1, x2, xf⟩ := HB.out.three
  obtain ⟨s0, s1, s2, s3, sf⟩ := HS.out.four
  go_wp2_with fail
  refine (HC.out.r w5 t.r t.s t.p HT.out.r).mono ?_
  rintro e w6 ⟨rfl, rfl⟩
  go_wp2_with fail
  refine (HC.out.i w6 t.a HT.out.a).mono ?_
  rintro e w7 ⟨rfl, hF7⟩
  have HF7 := Lib.hid hF7
  have HB7 := Lib.hid (HB.out.fr hF7 id)
  have HS7 := Lib.hid (HS.out.fr hF7 id)
  have HT7 := Lib.hid (HT.out.fr hF7 (fun _ _ q => q))
  clear hF7 x0 x1 x2 xf s0 s1 s2 s3 sf
  obtain ⟨x0, x1, x2, xf⟩ := HB7.out.three
  obtain ⟨s0, s1, s2, s3, sf⟩ := HS7.out.four
  go_wp2_with fail
  refine (HC.out.s w7 t.b HT7.out.b).mono ?_
  rintro e w8 ⟨rfl, hF8⟩
  have HF8 := Lib.hid hF8
  have HT8 := Lib.hid (HT7.out.fr hF8 (fun _ _ q => q))
  clear hF8 x0 x1 x2 xf s0 s1 s2 s3 sf
  go_wp2
  go_ret
  exact ⟨by simp, ⟨_, _, HT8.out⟩, ((HF.out.trans HF7.out (fun _ _ q => q)).trans HF8.out (fun _ _ q => q)).mono (fun _ _ q => q.elim)⟩
set_option maxHeartbeats 4000000 in
set_option maxRecDepth 100000 in
theorem step_get_true {w : World} {t : TB} {n : Nat} {said : List Int} {spoke : List Bool} (h : Th w t n said spoke) (on who v x : Int) (C : GetC n said spoke who x true) : Calls Try.prog 19 #[t.v, stepV 2 on who v] w (StepR w t n) := by
  have HC := Lib.hid C
  obtain ⟨T, hTx⟩ : ∃ T, textV x = T := ⟨_, rfl⟩
  have HTX := Lib.hid (fun W => text_fr x W)
  have HCS := Lib.hid (fun w g hg => C.s w g hg)
  simp only [reduceIte] at HCS
  rw [hTx] at HTX HCS
  obtain ⟨w5, hw5⟩ : ∃ w5, (w.alloc (.cells #[.pointer (some ⟨t.a, 0, none⟩), .pointer (some ⟨t.b, 0, none⟩), .pointer (some ⟨t.r, 0, none⟩)] 44 (0, 0))).alloc (.cells #[.int .i64 2, .int .i64 on, .int .i64 who, .int .i64 v] 49 (0, 0)) = w5 := ⟨_, rfl⟩
  have hF : Fr No w w5 := by rw [← hw5]; exact ((Fr.refl _ _).alloc _).alloc _
  obtain ⟨N, hN⟩ : ∃ N, w.heap.size = N := ⟨_, rfl⟩
  have hs1 : (w.alloc (.cells #[.pointer (some ⟨t.a, 0, none⟩), .pointer (some ⟨t.b, 0, none⟩), .pointer (some ⟨t.r, 0, none⟩)] 44 (0, 0))).heap.size = N + 1 := by simp [hN]
  have HB := Lib.hid (show Bk w5 N 44 [.pointer (some ⟨t.a, 0, none⟩), .pointer (some ⟨t.b, 0, none⟩), .pointer (some ⟨t.r, 0, none⟩)] by rw [← hw5, ← hN]; exact (Bk.new w 44 [.pointer (some ⟨t.a, 0, none⟩), .pointer (some ⟨t.b, 0, none⟩), .pointer (some ⟨t.r, 0, none⟩)]).alloc _)
  have HS := Lib.hid (show Bk w5 (N + 1) 49 [.int .i64 2, .int .i64 on, .int .i64 who, .int .i64 v] by rw [← hw5, ← hs1]; exact Bk.new _ 49 [.int .i64 2, .int .i64 on, .int .i64 who, .int .i64 v])
  have HT := Lib.hid (h.fr hF (fun _ _ q => q))
  have HF := Lib.hid hF
  have HLT := Lib.hid (fun k (hk : t.has k) => show k < N by rw [← hN]; exact h.lt hk)
  have HW5 := Lib.hid hw5
  have HN := Lib.hid hN
  unfold TB.v stepV
  clear C hTx hF hs1 hw5 hN h
  go_enter Try.func19, Try.ntmps19
  go_upto_region 1 with (fail)
  rw [HW5.out, HN.out]
  clear HW5
  obtain ⟨x0, x1, x2, xf⟩ := HB.out.three
  obtain ⟨s0, s1, s2, s3, sf⟩ := HS.out.four
  go_wp2_with fail
  refine (HC.out.i w5 t.a HT.out.a).mono ?_
  rintro e w7 ⟨rfl, hF7⟩
  have HF7 := Lib.hid hF7
  have HB7 := Lib.hid (HB.out.fr hF7 id)
  have HS7 := Lib.hid (HS.out.fr hF7 id)
  have HT7 := Lib.hid (HT.out.fr hF7 (fun _ _ q => q))
  clear hF7 x0 x1 x2 xf s0 s1 s2 s3 sf
  obtain ⟨x0, x1, x2, xf⟩ := HB7.out.three
  obtain ⟨s0, s1, s2, s3, sf⟩ := HS7.out.four
  go_wp2_with fail
  refine (HCS.out w7 t.b HT7.out.b).mono ?_
  rintro e w8 ⟨rfl, hF8⟩
  have HF8 := Lib.hid hF8
  have HB8 := Lib.hid (HB7.out.fr hF8 id)
  have HS8 := Lib.hid (HS7.out.fr hF8 id)
  have HT8 := Lib.hid (HT7.out.fr hF8 (fun _ _ q => q))
  clear hF8 x0 x1 x2 xf s0 s1 s2 s3 sf
  obtain ⟨x0, x1, x2, xf⟩ := HB8.out.three
  obtain ⟨s0, s1, s2, s3, sf⟩ := HS8.out.four
  go_wp2_with fail
  refine (HC.out.r w8 t.r t.s t.p HT8.out.r).mono ?_
  rintro e w9 ⟨rfl, rfl⟩
  clear x0 x1 x2 xf s0 s1 s2 s3 sf
  go_wp2_with fail
  refine (HTX.out _).mono ?_
  rintro e w10 ⟨rfl, hF10⟩
  have HF10 := Lib.hid hF10
  have HT10 := Lib.hid (HT8.out.fr hF10 (fun _ _ q => q))
  clear hF10
  go_wp2
  go_ret
  exact ⟨by simp, ⟨_, _, HT10.out⟩, (((HF.out.trans HF7.out (fun _ _ q => q)).trans HF8.out (fun _ _ q => q)).trans HF10.out (fun _ _ q => q)).mono (fun _ _ q => q.elim)⟩
set_option maxHeartbeats 4000000 in
set_option maxRecDepth 100000 in
theorem step_get_false {w : World} {t : TB} {n : Nat} {said : List Int} {spoke : List Bool} (h : Th w t n said spoke) (on who v x : Int) (C : GetC n said spoke who x false) : Calls Try.prog 19 #[t.v, stepV 2 on who v] w (StepR w t n) := by
  have HC := Lib.hid C
  have HCS := Lib.hid (fun w g hg => C.s w g hg)
  simp only [Bool.false_eq_true, reduceIte] at HCS
  obtain ⟨w5, hw5⟩ : ∃ w5, (w.alloc (.cells #[.pointer (some ⟨t.a, 0, none⟩), .pointer (some ⟨t.b, 0, none⟩), .pointer (some ⟨t.r, 0, none⟩)] 44 (0, 0))).alloc (.cells #[.int .i64 2, .int .i64 on, .int .i64 who, .int .i64 v] 49 (0, 0)) = w5 := ⟨_, rfl⟩
  have hF : Fr No w w5 := by rw [← hw5]; exact ((Fr.refl _ _).alloc _).alloc _
  obtain ⟨N, hN⟩ : ∃ N, w.heap.size = N := ⟨_, rfl⟩
  have hs1 : (w.alloc (.cells #[.pointer (some ⟨t.a, 0, none⟩), .pointer (some ⟨t.b, 0, none⟩), .pointer (some ⟨t.r, 0, none⟩)] 44 (0, 0))).heap.size = N + 1 := by simp [hN]
  have HB := Lib.hid (show Bk w5 N 44 [.pointer (some ⟨t.a, 0, none⟩), .pointer (some ⟨t.b, 0, none⟩), .pointer (some ⟨t.r, 0, none⟩)] by rw [← hw5, ← hN]; exact (Bk.new w 44 [.pointer (some ⟨t.a, 0, none⟩), .pointer (some ⟨t.b, 0, none⟩), .pointer (some ⟨t.r, 0, none⟩)]).alloc _)
  have HS := Lib.hid (show Bk w5 (N + 1) 49 [.int .i64 2, .int .i64 on, .int .i64 who, .int .i64 v] by rw [← hw5, ← hs1]; exact Bk.new _ 49 [.int .i64 2, .int .i64 on, .int .i64 who, .int .i64 v])
  have HT := Lib.hid (h.fr hF (fun _ _ q => q))
  have HF := Lib.hid hF
  have HLT := Lib.hid (fun k (hk : t.has k) => show k < N by rw [← hN]; exact h.lt hk)
  have HW5 := Lib.hid hw5
  have HN := Lib.hid hN
  unfold TB.v stepV
  clear C hF hs1 hw5 hN h
  go_enter Try.func19, Try.ntmps19
  go_upto_region 1 with (fail)
  rw [HW5.out, HN.out]
  clear HW5
  obtain ⟨x0, x1, x2, xf⟩ := HB.out.three
  obtain ⟨s0, s1, s2, s3, sf⟩ := HS.out.four
  go_wp2_with fail
  refine (HC.out.i w5 t.a HT.out.a).mono ?_
  rintro e w7 ⟨rfl, hF7⟩
  have HF7 := Lib.hid hF7
  have HB7 := Lib.hid (HB.out.fr hF7 id)
  have HS7 := Lib.hid (HS.out.fr hF7 id)
  have HT7 := Lib.hid (HT.out.fr hF7 (fun _ _ q => q))
  clear hF7 x0 x1 x2 xf s0 s1 s2 s3 sf
  obtain ⟨x0, x1, x2, xf⟩ := HB7.out.three
  obtain ⟨s0, s1, s2, s3, sf⟩ := HS7.out.four
  go_wp2_with fail
  refine (HCS.out w7 t.b HT7.out.b).mono ?_
  rintro e w8 ⟨rfl, hF8⟩
  have HF8 := Lib.hid hF8
  have HB8 := Lib.hid (HB7.out.fr hF8 id)
  have HS8 := Lib.hid (HS7.out.fr hF8 id)
  have HT8 := Lib.hid (HT7.out.fr hF8 (fun _ _ q => q))
  clear hF8 x0 x1 x2 xf s0 s1 s2 s3 sf
  obtain ⟨x0, x1, x2, xf⟩ := HB8.out.three
  obtain ⟨s0, s1, s2, s3, sf⟩ := HS8.out.four
  go_wp2_with fail
  refine (HC.out.r w8 t.r t.s t.p HT8.out.r).mono ?_
  rintro e w9 ⟨rfl, rfl⟩
  clear x0 x1 x2 xf s0 s1 s2 s3 sf
  go_wp2
  go_ret
  exact ⟨by simp, ⟨_, _, HT8.out⟩, ((HF.out.trans HF7.out (fun _ _ q => q)).trans HF8.out (fun _ _ q => q)).mono (fun _ _ q => q.elim)⟩
theorem step_get {w : World} {t : TB} {n : Nat} {said : List Int} {spoke : List Bool} (h : Th w t n said spoke) (on who v : Int) : Calls Try.prog 19 #[t.v, stepV 2 on who v] w (StepR w t n) := by
  obtain ⟨hl1, hl2⟩ := h.r.len
  obtain ⟨x, b, C⟩ := get_c h.hi h.lo hl1 hl2 who
  cases b
  · exact step_get_false h on who v x C
  · exact step_get_true h on who v x C
end Go.Proofs.Ytobnehbcnlhchaa.Vt
