/- One call on both tallies, held against the document's: walked, but for the range within a range. Conditions: none. -/
import Derived.Test.YtobnehbcnlhchaaVtG
namespace Go.Proofs.Ytobnehbcnlhchaa.Vt
open Go.RowKit Go.Proofs.Ytobnehbcnlhchaa.Mem
set_option linter.unusedVariables false
set_option linter.unusedSimpArgs false
section
variable {w w1 w2 w3 w4 : World} {t : TB} {n : Nat} {said said' : List Int} {spoke spoke' : List Bool}
theorem Th.nes (h : Th w t n said spoke) : (t.a ≠ t.b ∧ t.a ≠ t.r ∧ t.a ≠ t.s ∧ t.a ≠ t.p) ∧ (t.b ≠ t.r ∧ t.b ≠ t.s ∧ t.b ≠ t.p) := by
  obtain ⟨h1, h2, h3⟩ := h.r.bts
  have a := h.a.bt
  have b := h.b.bt
  exact ⟨⟨a.ne b (by decide), a.ne h1 (by decide), a.ne h2 (by decide), a.ne h3 (by decide)⟩, b.ne h1 (by decide), b.ne h2 (by decide), b.ne h3 (by decide)⟩
/-- the three in a row: the numbers' tally, the texts', the document's -/
theorem Th.three (h : Th w t n said spoke) (h1 : VtI.Tl w1 t.a n (s7 id 0 said' spoke')) (f1 : Fr (fun j => j = t.a) w w1) (f2 : Fr No w1 w2) (h3 : VtS.Tl w3 t.b n (s7 textV ByteArray.empty said' spoke')) (f3 : Fr (fun j => j = t.b) w2 w3) (h4 : RT w4 t.r t.s t.p n said' spoke') (f4 : Fr (fun j => j = t.s ∨ j = t.p) w3 w4) : Th w4 t n said' spoke' ∧ Fr t.has w w4 := by
  obtain ⟨⟨a1, a2, a3, a4⟩, b1, b2, b3⟩ := h.nes
  refine ⟨⟨((h1.fr f2 id).fr f3 a1).fr f4 (fun q => by rcases q with q | q; exact a3 q; exact a4 q), h3.fr f4 (fun q => by rcases q with q | q; exact b2 q; exact b3 q), h4, h.lo, h.hi⟩, ?_⟩
  refine (((f1.mono (fun k _ e => .inl e) : Fr t.has w w1).trans f2 (fun k _ q => q.elim)).trans f3 (fun k _ e => .inr (.inl e))).trans f4 (fun k _ e => ?_)
  rcases e with e | e
  · exact .inr (.inr (.inr (.inl e)))
  · exact .inr (.inr (.inr (.inr e)))
end
theorem text_fr (v : Int) (w : World) : Calls Try.prog 40 #[.int .i64 v] w fun e w' => e = .returned (.string (textV v)) ∧ Fr No w w' :=
  (text_is v w).mono fun e w' h => ⟨h.1, by rw [h.2]; exact (Fr.refl _ _).alloc _⟩
def stepV (kind on who v : Int) : Value := .agg #[.int .i64 kind, .int .i64 on, .int .i64 who, .int .i64 v]
/-- what a step leaves -/
def StepR (w : World) (t : TB) (n : Nat) (e : Ending) (w' : World) : Prop := e = .returned (.bool true) ∧ (∃ said spoke, Th w' t n said spoke) ∧ Fr t.has w w'
set_option maxHeartbeats 4000000 in
set_option maxRecDepth 100000 in
theorem step_add {w : World} {t : TB} {n : Nat} {said : List Int} {spoke : List Bool} (h : Th w t n said spoke) (on who v : Int) : Calls Try.prog 19 #[t.v, stepV 1 on who v] w (StepR w t n) := by
  obtain ⟨hl1, hl2⟩ := h.r.len
  obtain ⟨b, er, said', spoke', C⟩ := add_c h.hi h.lo hl1 hl2 who v
  have HC := Lib.hid C
  obtain ⟨w5, hw5⟩ : ∃ w5, (w.alloc (.cells #[.pointer (some ⟨t.a, 0, none⟩), .pointer (some ⟨t.b, 0, none⟩), .pointer (some ⟨t.r, 0, none⟩)] 44 (0, 0))).alloc (.cells #[.int .i64 1, .int .i64 on, .int .i64 who, .int .i64 v] 49 (0, 0)) = w5 := ⟨_, rfl⟩
  have hF : Fr No w w5 := by rw [← hw5]; exact ((Fr.refl _ _).alloc _).alloc _
  obtain ⟨N, hN⟩ : ∃ N, w.heap.size = N := ⟨_, rfl⟩
  have hs1 : (w.alloc (.cells #[.pointer (some ⟨t.a, 0, none⟩), .pointer (some ⟨t.b, 0, none⟩), .pointer (some ⟨t.r, 0, none⟩)] 44 (0, 0))).heap.size = N + 1 := by simp [hN]
  have HB := Lib.hid (show Bk w5 N 44 [.pointer (some ⟨t.a, 0, none⟩), .pointer (some ⟨t.b, 0, none⟩), .pointer (some ⟨t.r, 0, none⟩)] by rw [← hw5, ← hN]; exact (Bk.new w 44 [.pointer (some ⟨t.a, 0, none⟩), .pointer (some ⟨t.b, 0, none⟩), .pointer (some ⟨t.r, 0, none⟩)]).alloc _)
  have HS := Lib.hid (show Bk w5 (N + 1) 49 [.int .i64 1, .int .i64 on, .int .i64 who, .int .i64 v] by rw [← hw5, ← hs1]; exact Bk.new _ 49 [.int .i64 1, .int .i64 on, .int .i64 who, .int .i64 v])
  have HT := Lib.hid (h.fr hF (fun _ _ q => q))
  have HF := Lib.hid hF
  have HLT := Lib.hid (fun k (hk : t.has k) => show k < N by rw [← hN]; exact h.lt hk)
  have HW5 := Lib.hid hw5
  have HN := Lib.hid hN
  obtain ⟨T, hT⟩ : ∃ T, textV v = T := ⟨_, rfl⟩
  have HTX := Lib.hid (fun W => text_fr v W)
  have HAS := Lib.hid (fun W g hg => HC.out.s W g hg)
  rw [hT] at HTX HAS
  unfold TB.v stepV
  clear hl1 hl2 C hF hs1 hw5 hN h hT
  go_enter Try.func19, Try.ntmps19
  go_upto_region 1 with (fail)
  rw [HW5.out, HN.out]
  clear HW5
  obtain ⟨x0, x1, x2, xf⟩ := HB.out.three
  obtain ⟨s0, s1, s2, s3, sf⟩ := HS.out.four
  go_wp2_with fail
  refine (HC.out.i w5 t.a HT.out.a).mono ?_
  rintro e w6 ⟨rfl, hA, hF6⟩
  have h1 := HLT.out t.a (.inl rfl)
  have h2 := HLT.out t.b (.inr (.inl rfl))
  have hs5 : w5.heap.size ≥ N + 2 := by have := HS.out.lt; omega
  have HA := Lib.hid hA
  have HF6 := Lib.hid hF6
  have HB6 := Lib.hid (HB.out.fr hF6 (by omega))
  have HS6 := Lib.hid (HS.out.fr hF6 (by omega))
  have HTB6 := Lib.hid (HT.out.b.fr hF6 (fun e => HT.out.nes.1.1 e.symm))
  clear hA hF6 x0 x1 x2 xf s0 s1 s2 s3 sf
  obtain ⟨x0, x1, x2, xf⟩ := HB6.out.three
  obtain ⟨s0, s1, s2, s3, sf⟩ := HS6.out.four
  go_upto_region 4 with (fail)
  go_region_law (first | (go_simp; go_at_call 40; refine (HTX.out _).mono ?_; rintro e wt ⟨rfl, hFt⟩; have hFt : Fr No w6 wt := ((Fr.refl No _).drew).then_ hFt; obtain ⟨y0, y1, y2, yf⟩ := (HB6.out.fr hFt id).three; obtain ⟨z0, z1, z2, z3, zf⟩ := (HS6.out.fr hFt id).four) | (go_simp; go_at_call 39; refine (HAS.out wt t.b (HTB6.out.fr hFt id)).mono ?_; rintro e w8 ⟨rfl, hB8, hF8⟩))
  all_goals
    have HB8 := Lib.hid hB8
    have HFt := Lib.hid hFt
    have HF8 := Lib.hid hF8
    have HBB := Lib.hid ((HB6.out.fr hFt id).fr hF8 (by omega))
    have HSS := Lib.hid ((HS6.out.fr hFt id).fr hF8 (by omega))
    have HR8 := Lib.hid (((HT.out.r.fr HF6.out (fun e => HT.out.nes.1.2.1 e.symm) (fun e => HT.out.nes.1.2.2.1 e.symm) (fun e => HT.out.nes.1.2.2.2 e.symm)).fr hFt id id id).fr hF8 (fun e => HT.out.nes.2.1 e.symm) (fun e => HT.out.nes.2.2.1 e.symm) (fun e => HT.out.nes.2.2.2 e.symm))
    clear hB8 hFt hF8 x0 x1 x2 xf s0 s1 s2 s3 sf y0 y1 y2 yf z0 z1 z2 z3 zf
    obtain ⟨x0, x1, x2, xf⟩ := HBB.out.three
    obtain ⟨s0, s1, s2, s3, sf⟩ := HSS.out.four
    go_wp2_with fail
    refine (HC.out.r w8 t.r t.s t.p HR8.out).mono ?_
    rintro e w9 ⟨rfl, hR9, hF9⟩
    have HX := Lib.hid (HT.out.three HA.out HF6.out HFt.out HB8.out HF8.out hR9 hF9)
    clear hR9 hF9 x0 x1 x2 xf s0 s1 s2 s3 sf
    go_wp2
    go_ret
    exact ⟨by simp, ⟨_, _, HX.out.1⟩, (HF.out.mono (fun _ _ q => q.elim)).trans HX.out.2 (fun k hk q => q)⟩
end Go.Proofs.Ytobnehbcnlhchaa.Vt
