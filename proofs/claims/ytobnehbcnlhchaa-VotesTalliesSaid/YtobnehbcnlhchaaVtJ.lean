/- One call on both tallies, held against the document's: Drop, Clear, and the kinds that say nothing: walked. Conditions: none. -/
import Derived.Test.YtobnehbcnlhchaaVtH
namespace Go.Proofs.Ytobnehbcnlhchaa.Vt
open Go.RowKit Go.Proofs.Ytobnehbcnlhchaa.Mem
set_option linter.unusedVariables false
set_option linter.unusedSimpArgs false
set_option maxHeartbeats 4000000 in
set_option maxRecDepth 100000 in
theorem step_drop {w : World} {t : TB} {n : Nat} {said : List Int} {spoke : List Bool} (h : Th w t n said spoke) (on who v : Int) : Calls Try.prog 19 #[t.v, stepV 3 on who v] w (StepR w t n) := by
  obtain ⟨hl1, hl2⟩ := h.r.len
  obtain ⟨b, spoke', C⟩ := drop_c h.hi h.lo hl1 hl2 who
  have HC := Lib.hid C
  obtain ⟨w5, hw5⟩ : ∃ w5, (w.alloc (.cells #[.pointer (some ⟨t.a, 0, none⟩), .pointer (some ⟨t.b, 0, none⟩), .pointer (some ⟨t.r, 0, none⟩)] 44 (0, 0))).alloc (.cells #[.int .i64 3, .int .i64 on, .int .i64 who, .int .i64 v] 49 (0, 0)) = w5 := ⟨_, rfl⟩
  have hF : Fr No w w5 := by rw [← hw5]; exact ((Fr.refl _ _).alloc _).alloc _
  obtain ⟨N, hN⟩ : ∃ N, w.heap.size = N := ⟨_, rfl⟩
  have hs1 : (w.alloc (.cells #[.pointer (some ⟨t.a, 0, none⟩), .pointer (some ⟨t.b, 0, none⟩), .pointer (some ⟨t.r, 0, none⟩)] 44 (0, 0))).heap.size = N + 1 := by simp [hN]
  have HB := Lib.hid (show Bk w5 N 44 [.pointer (some ⟨t.a, 0, none⟩), .pointer (some ⟨t.b, 0, none⟩), .pointer (some ⟨t.r, 0, none⟩)] by rw [← hw5, ← hN]; exact (Bk.new w 44 [.pointer (some ⟨t.a, 0, none⟩), .pointer (some ⟨t.b, 0, none⟩), .pointer (some ⟨t.r, 0, none⟩)]).alloc _)
  have HS := Lib.hid (show Bk w5 (N + 1) 49 [.int .i64 3, .int .i64 on, .int .i64 who, .int .i64 v] by rw [← hw5, ← hs1]; exact Bk.new _ 49 [.int .i64 3, .int .i64 on, .int .i64 who, .int .i64 v])
  have HT := Lib.hid (h.fr hF (fun _ _ q => q))
  have HF := Lib.hid hF
  have HLT := Lib.hid (fun k (hk : t.has k) => show k < N by rw [← hN]; exact h.lt hk)
  have HW5 := Lib.hid hw5
  have HN := Lib.hid hN
  unfold TB.v stepV
  clear hl1 hl2 C hF hs1 hw5 hN h
  go_enter Try.func19, Try.ntmps19
  go_upto_region 1 with (fail)
  rw [HW5.out, HN.out]
  clear HW5
  obtain ⟨x0, x1, x2, xf⟩ := HB.out.three
  obtain ⟨s0, s1, s2, s3, sf⟩ := HS.out.four
  go_wp2_with fail
  refine (HC.out.i w5 t.a HT.out.a).mono ?_
  rintro e w6 ⟨rfl, hA, hF6⟩
  have h1 := HLT.out t.a (.inl rfl)
  have h2 := HLT.out t.b (.inr (.inl rfl))
  have h3 := HLT.out t.p (.inr (.inr (.inr (.inr rfl))))
  have hs5 : w5.heap.size ≥ N + 2 := by have := HS.out.lt; omega
  have HA := Lib.hid hA
  have HF6 := Lib.hid hF6
  have HB6 := Lib.hid (HB.out.fr hF6 (by omega))
  have HS6 := Lib.hid (HS.out.fr hF6 (by omega))
  have HTB6 := Lib.hid (HT.out.b.fr hF6 (fun e => HT.out.nes.1.1 e.symm))
  clear hA hF6 x0 x1 x2 xf s0 s1 s2 s3 sf
  obtain ⟨x0, x1, x2, xf⟩ := HB6.out.three
  obtain ⟨s0, s1, s2, s3, sf⟩ := HS6.out.four
  go_wp2_with fail
  refine (HC.out.s w6 t.b HTB6.out).mono ?_
  rintro e w8 ⟨rfl, hB8, hF8⟩
  have HB8 := Lib.hid hB8
  have HF8 := Lib.hid hF8
  have HBB := Lib.hid (HB6.out.fr hF8 (by omega))
  have HSS := Lib.hid (HS6.out.fr hF8 (by omega))
  have HR8 := Lib.hid ((HT.out.r.fr HF6.out (fun e => HT.out.nes.1.2.1 e.symm) (fun e => HT.out.nes.1.2.2.1 e.symm) (fun e => HT.out.nes.1.2.2.2 e.symm)).fr hF8 (fun e => HT.out.nes.2.1 e.symm) (fun e => HT.out.nes.2.2.1 e.symm) (fun e => HT.out.nes.2.2.2 e.symm))
  clear hB8 hF8 x0 x1 x2 xf s0 s1 s2 s3 sf
  obtain ⟨x0, x1, x2, xf⟩ := HBB.out.three
  obtain ⟨s0, s1, s2, s3, sf⟩ := HSS.out.four
  go_wp2_with fail
  refine (HC.out.r w8 t.r t.s t.p HR8.out).mono ?_
  rintro e w9 ⟨rfl, hR9, hF9⟩
  have HX := Lib.hid (HT.out.three HA.out HF6.out (Fr.refl _ _) HB8.out HF8.out hR9 (hF9.mono (fun _ _ q => .inr q)))
  clear hR9 hF9 x0 x1 x2 xf s0 s1 s2 s3 sf
  go_wp2
  go_ret
  exact ⟨by simp, ⟨_, _, HX.out.1⟩, (HF.out.mono (fun _ _ q => q.elim)).trans HX.out.2 (fun k hk q => q)⟩
structure ClearC (n : Nat) (said : List Int) (spoke : List Bool) (spoke' : List Bool) : Prop where
  i : ∀ w g, VtI.Tl w g n (s7 id 0 said spoke) → Calls Try.prog 49 #[.pointer (some ⟨g, 0, none⟩)] w fun e w' => (∃ x, e = .returned x) ∧ VtI.Tl w' g n (s7 id 0 said spoke') ∧ Fr (fun j => j = g) w w'
  s : ∀ w g, VtS.Tl w g n (s7 textV ByteArray.empty said spoke) → Calls Try.prog 50 #[.pointer (some ⟨g, 0, none⟩)] w fun e w' => (∃ x, e = .returned x) ∧ VtS.Tl w' g n (s7 textV ByteArray.empty said spoke') ∧ Fr (fun j => j = g) w w'
  r : ∀ w r s p, RT w r s p n said spoke → Calls Try.prog 51 #[.pointer (some ⟨r, 0, none⟩)] w fun e w' => (∃ x, e = .returned x) ∧ RT w' r s p n said spoke' ∧ Fr (fun j => j = p) w w'
theorem clear_c {n : Nat} {said : List Int} {spoke : List Bool} (h7 : n ≤ 7) : ClearC n said spoke (List.replicate n false) :=
  ⟨fun w g hT => (VtI.clear_ g n _ w hT).mono fun e w' hh => ⟨hh.1, by rw [s7_none h7]; exact hh.2.1, hh.2.2⟩,
   fun w g hT => (VtS.clear_ g n _ w hT).mono fun e w' hh => ⟨hh.1, by rw [s7_none h7]; exact hh.2.1, hh.2.2⟩,
   fun w r s p hR => rClear_ hR h7⟩
set_option maxHeartbeats 4000000 in
set_option maxRecDepth 100000 in
theorem step_clear {w : World} {t : TB} {n : Nat} {said : List Int} {spoke : List Bool} (h : Th w t n said spoke) (on who v : Int) : Calls Try.prog 19 #[t.v, stepV 6 on who v] w (StepR w t n) := by
  have HC := Lib.hid (clear_c (said := said) (spoke := spoke) h.hi)
  obtain ⟨w5, hw5⟩ : ∃ w5, (w.alloc (.cells #[.pointer (some ⟨t.a, 0, none⟩), .pointer (some ⟨t.b, 0, none⟩), .pointer (some ⟨t.r, 0, none⟩)] 44 (0, 0))).alloc (.cells #[.int .i64 6, .int .i64 on, .int .i64 who, .int .i64 v] 49 (0, 0)) = w5 := ⟨_, rfl⟩
  have hF : Fr No w w5 := by rw [← hw5]; exact ((Fr.refl _ _).alloc _).alloc _
  obtain ⟨N, hN⟩ : ∃ N, w.heap.size = N := ⟨_, rfl⟩
  have hs1 : (w.alloc (.cells #[.pointer (some ⟨t.a, 0, none⟩), .pointer (some ⟨t.b, 0, none⟩), .pointer (some ⟨t.r, 0, none⟩)] 44 (0, 0))).heap.size = N + 1 := by simp [hN]
  have HB := Lib.hid (show Bk w5 N 44 [.pointer (some ⟨t.a, 0, none⟩), .pointer (some ⟨t.b, 0, none⟩), .pointer (some ⟨t.r, 0, none⟩)] by rw [← hw5, ← hN]; exact (Bk.new w 44 [.pointer (some ⟨t.a, 0, none⟩), .pointer (some ⟨t.b, 0, none⟩), .pointer (some ⟨t.r, 0, none⟩)]).alloc _)
  have HS := Lib.hid (show Bk w5 (N + 1) 49 [.int .i64 6, .int .i64 on, .int .i64 who, .int .i64 v] by rw [← hw5, ← hs1]; exact Bk.new _ 49 [.int .i64 6, .int .i64 on, .int .i64 who, .int .i64 v])
  have HT := Lib.hid (h.fr hF (fun _ _ q => q))
  have HF := Lib.hid hF
  have HLT := Lib.hid (fun k (hk : t.has k) => show k < N by rw [← hN]; exact h.lt hk)
  have HW5 := Lib.hid hw5
  have HN := Lib.hid hN
  unfold TB.v stepV
  clear  hF hs1 hw5 hN h
  go_enter Try.func19, Try.ntmps19
  go_upto_region 1 with (fail)
  rw [HW5.out, HN.out]
  clear HW5
  obtain ⟨x0, x1, x2, xf⟩ := HB.out.three
  obtain ⟨s0, s1, s2, s3, sf⟩ := HS.out.four
  go_wp2_with fail
  refine (HC.out.i w5 t.a HT.out.a).mono ?_
  rintro e w6 ⟨⟨x, rfl⟩, hA, hF6⟩
  have h1 := HLT.out t.a (.inl rfl)
  have h2 := HLT.out t.b (.inr (.inl rfl))
  have h3 := HLT.out t.p (.inr (.inr (.inr (.inr rfl))))
  have hs5 : w5.heap.size ≥ N + 2 := by have := HS.out.lt; omega
  have HA := Lib.hid hA
  have HF6 := Lib.hid hF6
  have HB6 := Lib.hid (HB.out.fr hF6 (by omega))
  have HS6 := Lib.hid (HS.out.fr hF6 (by omega))
  have HTB6 := Lib.hid (HT.out.b.fr hF6 (fun e => HT.out.nes.1.1 e.symm))
  clear hA hF6 x0 x1 x2 xf s0 s1 s2 s3 sf
  obtain ⟨x0, x1, x2, xf⟩ := HB6.out.three
  obtain ⟨s0, s1, s2, s3, sf⟩ := HS6.out.four
  go_wp2_with fail
  refine (HC.out.s w6 t.b HTB6.out).mono ?_
  rintro e w8 ⟨⟨x, rfl⟩, hB8, hF8⟩
  have HB8 := Lib.hid hB8
  have HF8 := Lib.hid hF8
  have HBB := Lib.hid (HB6.out.fr hF8 (by omega))
  have HSS := Lib.hid (HS6.out.fr hF8 (by omega))
  have HR8 := Lib.hid ((HT.out.r.fr HF6.out (fun e => HT.out.nes.1.2.1 e.symm) (fun e => HT.out.nes.1.2.2.1 e.symm) (fun e => HT.out.nes.1.2.2.2 e.symm)).fr hF8 (fun e => HT.out.nes.2.1 e.symm) (fun e => HT.out.nes.2.2.1 e.symm) (fun e => HT.out.nes.2.2.2 e.symm))
  clear hB8 hF8 x0 x1 x2 xf s0 s1 s2 s3 sf
  obtain ⟨x0, x1, x2, xf⟩ := HBB.out.three
  obtain ⟨s0, s1, s2, s3, sf⟩ := HSS.out.four
  go_wp2_with fail
  refine (HC.out.r w8 t.r t.s t.p HR8.out).mono ?_
  rintro e w9 ⟨⟨x, rfl⟩, hR9, hF9⟩
  have HX := Lib.hid (HT.out.three HA.out HF6.out (Fr.refl _ _) HB8.out HF8.out hR9 (hF9.mono (fun _ _ q => .inr q)))
  clear hR9 hF9 x0 x1 x2 xf s0 s1 s2 s3 sf
  go_wp2
  go_ret
  exact ⟨by simp, ⟨_, _, HX.out.1⟩, (HF.out.mono (fun _ _ q => q.elim)).trans HX.out.2 (fun k hk q => q)⟩
set_option maxHeartbeats 4000000 in
set_option maxRecDepth 100000 in
theorem step_none {w : World} {t : TB} {n : Nat} {said : List Int} {spoke : List Bool} (h : Th w t n said spoke) (kind on who v : Int) (hk : kind ≠ 1 ∧ kind ≠ 2 ∧ kind ≠ 3 ∧ kind ≠ 4 ∧ kind ≠ 5 ∧ kind ≠ 6 ∧ kind ≠ 8) : Calls Try.prog 19 #[t.v, stepV kind on who v] w (StepR w t n) := by
  obtain ⟨k1, k2, k3, k4, k5, k6, k8⟩ := hk
  obtain ⟨w5, hw5⟩ : ∃ w5, (w.alloc (.cells #[.pointer (some ⟨t.a, 0, none⟩), .pointer (some ⟨t.b, 0, none⟩), .pointer (some ⟨t.r, 0, none⟩)] 44 (0, 0))).alloc (.cells #[.int .i64 kind, .int .i64 on, .int .i64 who, .int .i64 v] 49 (0, 0)) = w5 := ⟨_, rfl⟩
  have hF : Fr No w w5 := by rw [← hw5]; exact ((Fr.refl _ _).alloc _).alloc _
  obtain ⟨N, hN⟩ : ∃ N, w.heap.size = N := ⟨_, rfl⟩
  have hs1 : (w.alloc (.cells #[.pointer (some ⟨t.a, 0, none⟩), .pointer (some ⟨t.b, 0, none⟩), .pointer (some ⟨t.r, 0, none⟩)] 44 (0, 0))).heap.size = N + 1 := by simp [hN]
  have HB := Lib.hid (show Bk w5 N 44 [.pointer (some ⟨t.a, 0, none⟩), .pointer (some ⟨t.b, 0, none⟩), .pointer (some ⟨t.r, 0, none⟩)] by rw [← hw5, ← hN]; exact (Bk.new w 44 [.pointer (some ⟨t.a, 0, none⟩), .pointer (some ⟨t.b, 0, none⟩), .pointer (some ⟨t.r, 0, none⟩)]).alloc _)
  have HS := Lib.hid (show Bk w5 (N + 1) 49 [.int .i64 kind, .int .i64 on, .int .i64 who, .int .i64 v] by rw [← hw5, ← hs1]; exact Bk.new _ 49 [.int .i64 kind, .int .i64 on, .int .i64 who, .int .i64 v])
  have HT := Lib.hid (h.fr hF (fun _ _ q => q))
  have HF := Lib.hid hF
  have HLT := Lib.hid (fun k (hk : t.has k) => show k < N by rw [← hN]; exact h.lt hk)
  have HW5 := Lib.hid hw5
  have HN := Lib.hid hN
  unfold TB.v stepV
  clear  hF hs1 hw5 hN h
  go_enter Try.func19, Try.ntmps19
  go_upto_region 1 with (fail)
  rw [HW5.out, HN.out]
  clear HW5
  obtain ⟨x0, x1, x2, xf⟩ := HB.out.three
  obtain ⟨s0, s1, s2, s3, sf⟩ := HS.out.four
  go_wp2
  go_ret
  exact ⟨by simp, ⟨_, _, HT.out⟩, HF.out.mono (fun _ _ q => q.elim)⟩
end Go.Proofs.Ytobnehbcnlhchaa.Vt
