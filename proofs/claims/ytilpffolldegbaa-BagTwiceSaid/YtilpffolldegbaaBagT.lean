/- The law BagTwice: its walk. Conditions: none. -/
import Derived.Test.YtilpffolldegbaaBagK
namespace Go.Proofs.Ytilpffolldegbaa.Bg
open Go.RowKit Go.Proofs.Ytilpffolldegbaa.Mem
set_option linter.unusedVariables false
set_option linter.unusedSimpArgs false

theorem flip_one (room laid : Int) (p : Pk) (x y : Int) : flipS ⟨room, laid, [p]⟩ 0 x y = if x < 0 ∨ (p.data.length : Int) ≤ x then (⟨room, laid, [p]⟩, 153) else if y < 1 ∨ 255 < y ∨ (p.turned ≠ 0 ∧ p.turned ≠ x + 1) then (⟨room, laid, [p]⟩, 154) else (⟨room, laid, [flipP p x y]⟩, 0) := by
  simp [flipS]
theorem xor_ne (a : UInt8) (y : Int) (h0 : 1 ≤ y) (h1 : y ≤ 255) : a ^^^ UInt8.ofNat y.toNat ≠ a := by
  intro h
  have h2 : (a ^^^ a) ^^^ UInt8.ofNat y.toNat = a ^^^ a := by rw [UInt8.xor_assoc, h]
  rw [UInt8.xor_self, UInt8.zero_xor] at h2
  have h3 := congrArg UInt8.toNat h2
  rw [UInt8.toNat_ofNat'] at h3
  simp at h3
  omega
theorem xor_back (a u : UInt8) : (a ^^^ u) ^^^ u = a := by rw [UInt8.xor_assoc, UInt8.xor_self, UInt8.xor_zero]
theorem set_back (l : List UInt8) (j : Nat) (hj : j < l.length) (u : UInt8) : (l.set j (l.getD j 0 ^^^ u)).set j ((l.set j (l.getD j 0 ^^^ u)).getD j 0 ^^^ u) = l := by
  rw [List.set_set]
  have h : (l.set j (l.getD j 0 ^^^ u)).getD j 0 = l.getD j 0 ^^^ u := by simp [List.getD_eq_getElem?_getD, hj]
  rw [h, xor_back]
  simp [List.getD_eq_getElem?_getD, hj]
theorem set_ne (l : List UInt8) (j : Nat) (hj : j < l.length) (y : Int) (h0 : 1 ≤ y) (h1 : y ≤ 255) : decide (l.set j (l.getD j 0 ^^^ UInt8.ofNat y.toNat) = l) = false := by
  refine decide_eq_false (fun h => ?_)
  have h2 := congrArg (fun q => q.getD j 0) h
  simp [List.getD_eq_getElem?_getD, hj] at h2
  exact xor_ne _ y h0 h1 h2
theorem near_set (p : Pk) (l : List UInt8) (j : Nat) (hj : j < l.length) (u : UInt8) (hd : p.data = l.set j u) (ht : p.turned = (j : Int) + 1) : Near p l := by
  refine ⟨by rw [hd, List.length_set], by omega, by omega, fun i a b ha hb => ?_⟩
  rw [hd, List.getElem?_set] at ha
  split at ha
  · right; omega
  · rw [ha] at hb; left; exact Option.some.inj hb
set_option maxHeartbeats 2000000 in
set_option maxRecDepth 100000 in
theorem twice_walk (A : Option Addr) (c : Nat) (l : List UInt8) (x y : Int) (w : World) (hA : BR Any w A l) (hn : l.length ≤ 140737488355328) (hx : -9223372036854775808 ≤ x ∧ x ≤ 9223372036854775807) :
    Calls Try.prog 3 #[.slice A l.length c, .int .i64 x, .int .i64 y] w fun e w' => e = .returned (.bool true) ∧ Fr No w w' := by
  have HA := Lib.hid hA
  obtain ⟨n, hn'⟩ : ∃ n, l.length = n := ⟨_, rfl⟩
  have HN := Lib.hid hn'
  rw [hn'] at hn ⊢
  clear hA hn'
  go_enter Try.func3, Try.ntmps3
  go_wp2_with fail
  refine (shown w).mono ?_
  rintro e w1 ⟨rfl, hF1⟩
  have HF1 := Lib.hid hF1
  go_wp2_with fail
  refine (bNew No 2 w1 (by omega) (by omega)).mono ?_
  rintro e w2 ⟨rfl, hB2, hF2⟩
  have M2 := Lib.hid (Mine.new hB2 hF2 HF1.out)
  clear hB2 hF2 hF1
  go_wp2_with fail
  refine (bAdd (H := No) 1 9 A n c l _ HN.out hn (HA.out.fr M2.out.fr (fun _ _ _ q => q)) (fun _ _ q => q) M2.out.bag (by dsimp only; omega) (by decide) (by dsimp only; omega)).mono ?_
  rintro e w4 ⟨rb4, rfl, hB4, hF4, hn4⟩
  rw [show addS ⟨2, 0, []⟩ 1 9 l = (⟨2, 1, [⟨1, 1, 9, 0, 0, l⟩]⟩, 0) from rfl] at hB4 ⊢
  have M4 := Lib.hid (M2.out.step hB4 hF4 hn4)
  clear hB4 hF4 hn4 M2
  go_wp2_with fail
  have hsm : Small ⟨2, 1, [⟨1, 1, 9, 0, 0, l⟩]⟩ := fun p hp => by simp at hp; subst hp; show l.length ≤ _; rw [HN.out]; omega
  refine (bFlip (H := No) 0 x y w4 M4.out.bag hsm (fun _ _ q => q)).mono ?_
  rintro e w5 ⟨rfl, hB5, hF5⟩
  rw [flip_one] at hB5 ⊢
  dsimp only at hB5 ⊢
  rw [HN.out] at hB5 ⊢
  by_cases h1 : x < 0 ∨ (n : Int) ≤ x
  · rw [if_pos h1] at hB5 ⊢
    have M5 := Lib.hid (M4.out.step hB5 hF5 (.inl rfl))
    clear hB5 hF5 hsm M4
    dsimp only
    rcases h1 with h1 | h1
    · have d1 : decide (x < 0) = true := decide_eq_true h1
      go_wp2
      go_ret
      exact ⟨rfl, M5.out.fr⟩
    · have d1 : decide (x < 0) = false := decide_eq_false (by omega)
      have d2 : decide ((n : Int) ≤ x) = true := decide_eq_true h1
      go_wp2
      go_ret
      exact ⟨rfl, M5.out.fr⟩
  · rw [if_neg h1] at hB5 ⊢
    have d1 : decide (x < 0) = false := decide_eq_false (by omega)
    have d2 : decide ((n : Int) ≤ x) = false := decide_eq_false (by omega)
    by_cases h2 : y < 1 ∨ 255 < y
    · rw [if_pos (by omega)] at hB5 ⊢
      have M5 := Lib.hid (M4.out.step hB5 hF5 (.inl rfl))
      clear hB5 hF5 hsm M4
      dsimp only
      rcases h2 with h2 | h2
      · have d3 : decide (y < 1) = true := decide_eq_true h2
        go_wp2
        go_ret
        exact ⟨rfl, M5.out.fr⟩
      · have d3 : decide (y < 1) = false := decide_eq_false (by omega)
        have d4 : decide (255 < y) = true := decide_eq_true h2
        go_wp2
        go_ret
        exact ⟨rfl, M5.out.fr⟩
    · rw [if_neg (by omega)] at hB5 ⊢
      have d3 : decide (y < 1) = false := decide_eq_false (by omega)
      have d4 : decide (255 < y) = false := decide_eq_false (by omega)
      have M5 := Lib.hid (M4.out.step hB5 hF5 (.inl rfl))
      obtain ⟨j, rfl⟩ := Int.eq_ofNat_of_zero_le (show 0 ≤ x by omega)
      have hj : j < n := by omega
      have hjl : j < l.length := by rw [HN.out]; exact hj
      unfold flipP at M5
      dsimp only at M5 ⊢
      rw [Int.toNat_natCast] at M5
      obtain ⟨l2, hl2⟩ : ∃ l2, l.set j (l.getD j 0 ^^^ UInt8.ofNat y.toNat) = l2 := ⟨_, rfl⟩
      have HL2 := Lib.hid hl2
      have HLN : Hid (l2.length = n) := by show _ = _; rw [← hl2, List.length_set]; exact HN.out
      have HD := Lib.hid (set_ne l j hjl y (by omega) (by omega))
      have HNR := Lib.hid (near_set ⟨1, 1, 9, 0, (j : Int) + 1, l2⟩ l j hjl _ hl2.symm rfl)
      have HBK := Lib.hid (set_back l j hjl (UInt8.ofNat y.toNat))
      rw [hl2] at M5 HD HBK
      clear hB5 hF5 hsm M4 h1 h2 hl2
      go_wp2_with fail
      have HS2 : Hid ([(⟨1, 1, 9, 0, (j : Int) + 1, l2⟩ : Pk)][0].data.length ≤ 140737488355328) := by show l2.length ≤ _; rw [HLN.out]; omega
      refine (bAt_some (H := No) (s := ⟨2, 1, [⟨1, 1, 9, 0, (j : Int) + 1, l2⟩]⟩) 0 (by simp) w5 M5.out.bag HS2.out (fun _ _ q => q)).mono ?_
      rintro e w6 ⟨b, rfl, hb, hk6, hF6⟩
      have M6 := Lib.hid (M5.out.quiet hF6)
      have HLT := Lib.hid (fun k hk => Nat.lt_of_lt_of_le (M5.out.bag.sgl k hk) hF6.size)
      have HK6 := Lib.hid hk6
      unfold Pk.cells
      dsimp only [List.getElem_cons_zero] at HK6 ⊢
      rw [HLN.out]
      have hbl : b < w6.heap.size := hk6.lt
      clear hF6 hk6 M5 hb
      obtain ⟨w7, hw7⟩ : ∃ w7, w6.alloc (.cells #[.int .i64 1, .int .i64 1, .int .i64 9, .int .i64 0, .int .i64 ((j : Int) + 1), .slice (some ⟨b, 0, none⟩) n n] 31 (0, 0)) = w7 := ⟨_, rfl⟩
      have hF7 : Fr No w6 w7 := by rw [← hw7]; exact (Fr.refl _ _).alloc _
      have HX7 := Lib.hid (show Bk w7 w6.heap.size 31 [.int .i64 1, .int .i64 1, .int .i64 9, .int .i64 0, .int .i64 ((j : Int) + 1), .slice (some ⟨b, 0, none⟩) n n] by rw [← hw7]; exact Bk.new _ _ _)
      have M7 := Lib.hid (M6.out.quiet hF7)
      have HK7 := Lib.hid (HK6.out.fr hF7 id)
      have HSAME := Lib.hid (same (some ⟨b, 0, none⟩) A n n n c l2 l w7 (BR.of_block HK7.out trivial) (HA.out.fr M7.out.fr (fun _ _ _ q => q)) HLN.out HN.out (by omega) (by omega))
      rw [HD.out] at HSAME
      have HW7 := Lib.hid hw7
      have hwj : IntKind.i64.wrap ((j : Int) + 1) = (j : Int) + 1 := IntWalk.i64_in _ (by omega)
      clear hF7 hw7 M6 HK6
      go_wp2_with fail
      rw [HW7.out]
      refine HSAME.out.mono ?_
      rintro e w8 ⟨rfl, hF8⟩
      have M8 := Lib.hid (M7.out.quiet hF8)
      have HK8 := Lib.hid (HK7.out.fr hF8 id)
      have HX8 := Lib.hid (HX7.out.fr hF8 id)
      obtain ⟨x0, x1, x2, x3, x4, x5, xf⟩ := HX8.out.six
      have HNE := Lib.hid (nearly ⟨1, 1, 9, 0, (j : Int) + 1, l2⟩ (some ⟨b, 0, none⟩) A n c l w8 (BR.of_block HK8.out trivial) (HA.out.fr M8.out.fr (fun _ _ _ q => q)) (by rw [HN.out]; omega) HNR.out)
      unfold Pk.cells at HNE
      dsimp only at HNE
      rw [HLN.out, HN.out] at HNE
      clear hF8 M7 HK7 HX7 HW7 HSAME
      go_wp2_with fail
      refine HNE.out.mono ?_
      rintro e w9 ⟨rfl, hF9⟩
      have M9 := Lib.hid (M8.out.quiet hF9)
      have HX9 := Lib.hid (HX8.out.fr hF9 id)
      clear x0 x1 x2 x3 x4 x5 xf
      obtain ⟨x0, x1, x2, x3, x4, x5, xf⟩ := HX9.out.six
      clear hF9 M8 HX8 HNE HK8
      have hjj : ((j : Int) + 1 != (j : Int) + 1) = false := by simp
      go_wp2_with fail
      -- once more
      have HSM : Hid (Small ⟨2, 1, [⟨1, 1, 9, 0, (j : Int) + 1, l2⟩]⟩) := fun p hp => by simp at hp; subst hp; show l2.length ≤ _; rw [HLN.out]; omega
      refine (bFlip (H := No) 0 (j : Int) y w9 M9.out.bag HSM.out (fun _ _ q => q)).mono ?_
      rintro e wa ⟨rfl, hBa, hFa⟩
      rw [flip_one] at hBa ⊢
      dsimp only at hBa ⊢
      rw [HLN.out, if_neg (by omega), if_neg (by simp at d3 d4 ⊢; omega)] at hBa ⊢
      unfold flipP at hBa
      dsimp only at hBa ⊢
      rw [Int.toNat_natCast, HBK.out] at hBa
      have Ma := Lib.hid (M9.out.step hBa hFa (.inl rfl))
      have HXa := Lib.hid (HX9.out.fr hFa (fun h => Nat.lt_irrefl _ (HLT.out _ h)))
      clear x0 x1 x2 x3 x4 x5 xf hBa hFa M9 HX9 HSM hjj
      have hwq : IntKind.i64.wrap ((j : Int) - 1) = (j : Int) - 1 := IntWalk.i64_in _ (by omega)
      go_wp2_with fail
      have HSM : Hid (Small ⟨2, 1, [⟨1, 1, 9, 0, (j : Int) + 1, l⟩]⟩) := fun p hp => by simp at hp; subst hp; show l.length ≤ _; rw [HN.out]; omega
      have hq : ∃ q : Int, flipS ⟨2, 1, [⟨1, 1, 9, 0, (j : Int) + 1, l⟩]⟩ 0 ((j : Int) - 1) 1 = (⟨2, 1, [⟨1, 1, 9, 0, (j : Int) + 1, l⟩]⟩, q) ∧ (q = 153 ∨ q = 154) := by
        rw [flip_one]
        by_cases h : (j : Int) - 1 < 0 ∨ ((⟨1, 1, 9, 0, (j : Int) + 1, l⟩ : Pk).data.length : Int) ≤ (j : Int) - 1
        · rw [if_pos h]; exact ⟨153, rfl, .inl rfl⟩
        · rw [if_neg h, if_pos (.inr (.inr ⟨by dsimp only; omega, by dsimp only; omega⟩))]; exact ⟨154, rfl, .inr rfl⟩
      obtain ⟨q, hq, hq1⟩ := hq
      refine (bFlip (H := No) 0 ((j : Int) - 1) 1 wa Ma.out.bag HSM.out (fun _ _ q => q)).mono ?_
      rintro e wb ⟨rfl, hBb, hFb⟩
      rw [hq] at hBb ⊢
      have Mb := Lib.hid (Ma.out.step hBb hFb (.inl rfl))
      have HXb := Lib.hid (HXa.out.fr hFb (fun h => Nat.lt_irrefl _ (HLT.out _ h)))
      have q1 : (q == 0) = false := by rcases hq1 with rfl | rfl <;> rfl
      have q2 : (q != 0) = true := by rcases hq1 with rfl | rfl <;> rfl
      clear hBb hFb Ma HXa hq hq1 HSM hwq
      dsimp only
      go_wp2_with fail
      have HS3 : Hid ([(⟨1, 1, 9, 0, (j : Int) + 1, l⟩ : Pk)][0].data.length ≤ 140737488355328) := by show l.length ≤ _; rw [HN.out]; omega
      refine (bTake_some (H := No) (s := ⟨2, 1, [⟨1, 1, 9, 0, (j : Int) + 1, l⟩]⟩) 0 (by simp) wb Mb.out.bag HS3.out (fun _ _ q => q)).mono ?_
      rintro e wc ⟨b', rfl, hb', hkc, hBc, hFc⟩
      have Mc := Lib.hid (Mb.out.step hBc hFc (.inl rfl))
      have HXc := Lib.hid (HXb.out.fr hFc (fun h => Nat.lt_irrefl _ (HLT.out _ h)))
      have HKc := Lib.hid hkc
      unfold Pk.cells
      dsimp only [List.getElem_cons_zero, List.eraseIdx_cons_zero] at HKc Mc ⊢
      rw [HN.out]
      have hbc := hkc.lt
      have hbx : w6.heap.size ≠ b' := fun e => absurd rfl (hkc.bt.ne (e ▸ HXc.out.bt) (by decide))
      obtain ⟨x0, x1, x2, x3, x4, x5, xf⟩ := HXc.out.six
      clear hkc hBc hFc Mb HXb hb'
      go_wp2_with fail
      obtain ⟨wd, hwd⟩ : ∃ wd, (((((wc.setCell ⟨w6.heap.size, 0, none⟩ (.int .i64 1)).setCell ⟨w6.heap.size, 1, none⟩ (.int .i64 1)).setCell ⟨w6.heap.size, 2, none⟩ (.int .i64 9)).setCell ⟨w6.heap.size, 3, none⟩ (.int .i64 0)).setCell ⟨w6.heap.size, 4, none⟩ (.int .i64 ((j : Int) + 1))).setCell ⟨w6.heap.size, 5, none⟩ (.slice (some ⟨b', 0, none⟩) n n) = wd := ⟨_, rfl⟩
      rw [hwd]
      have hFd : Fr (fun k => k = w6.heap.size) wc wd := by
        rw [← hwd]
        exact Fr.six (Fr.refl (fun k => k = w6.heap.size) wc) (.inl rfl) _ _ _ _ _ _
      have hBd : Bag No wd w1.heap.size rb4 ⟨2, 1, []⟩ := Mc.out.bag.fr hFd (fun h => Nat.lt_irrefl _ (h ▸ HLT.out _ (.inl rfl))) (fun k hk h => Nat.lt_irrefl _ (h ▸ HLT.out k (.inr hk))) (fun k hk h8 => by subst hk; exact absurd rfl (HXc.out.bt.ne h8 (by decide)))
      have HFd := Lib.hid (show Fr No w wd from Mc.out.fr.trans hFd (fun k hk h => by
        have h6 : w.heap.size ≤ w6.heap.size := Nat.le_trans Mc.out.hg (Nat.le_of_lt (HLT.out _ (.inl rfl)))
        omega))
      have HKd := Lib.hid (HKc.out.fr hFd (fun h => hbx h.symm))
      have HXd := Lib.hid (show Bk wd w6.heap.size 31 [.int .i64 1, .int .i64 1, .int .i64 9, .int .i64 0, .int .i64 ((j : Int) + 1), .slice (some ⟨b', 0, none⟩) n n] by
        rw [← hwd]
        exact Bk.sixset HXc.out _ _ _ _ _ _)
      have HBd := Lib.hid hBd
      clear hwd hFd hBd HXc HKc Mc x0 x1 x2 x3 x4 x5 xf
      refine (bLen (H := No) wd HBd.out).mono ?_
      rintro e we ⟨rfl, rfl⟩
      obtain ⟨x0, x1, x2, x3, x4, x5, xf⟩ := HXd.out.six
      have HS := Lib.hid (same (some ⟨b', 0, none⟩) A n n n c l l we (BR.of_block HKd.out trivial) (HA.out.fr HFd.out (fun _ _ _ q => q)) HN.out HN.out (by omega) (by omega))
      rw [show decide (l = l) = true by simp] at HS
      dsimp only [List.length_nil]
      go_wp2_with fail
      refine HS.out.mono ?_
      rintro e wf ⟨rfl, hFf⟩
      have HFf := Lib.hid (HFd.out.then_ hFf)
      have HXf := Lib.hid (HXd.out.fr hFf id)
      clear x0 x1 x2 x3 x4 x5 xf hFf HXd HS
      obtain ⟨x0, x1, x2, x3, x4, x5, xf⟩ := HXf.out.six
      go_wp2
      go_ret
      exact ⟨by simp, HFf.out⟩
theorem twice_row (w : World) (A : Option Addr) (c : Nat) (l : List UInt8) (hA : BR Any w A l) (_hl : l.length ≤ c) (hc : c * 1 ≤ 140737488351232) (x : Int) (wx : (Lit.int .i64 x).wf = true) (y : Int) (_wy : (Lit.int .i64 y).wf = true) :
    Calls Try.prog 3 #[.slice A l.length c, .int .i64 x, .int .i64 y] w fun e w' => e = .returned (.bool true) ∧ Below w.heap.size w w' :=
  (twice_walk A c l x y w hA (by omega) (by simpa [Lit.wf, IntKind.min, IntKind.max, IntKind.signed, IntKind.bits] using wx)).mono fun _ _ ⟨h, h'⟩ => ⟨h, h'.to⟩
end Go.Proofs.Ytilpffolldegbaa.Bg
