/- Seal. Conditions: none. -/
import Derived.Test.YtfpjdgkooikeoaaDoorSealE
namespace Go.Proofs.YtfpjdgkooikeoaaDoor.Sl
open Go.RowKit Go.Proofs.YtfpjdgkooikeoaaDoor.Mem
set_option linter.unusedVariables false
set_option linter.unusedSimpArgs false
/-- a head's first five bytes -/
def headL (n : Nat) : List UInt8 := [0x46, 0x4C, UInt8.ofNat (n % 256), UInt8.ofNat (n / 256 % 256), UInt8.ofNat (n / 65536 % 256)]
/-- the datagram of a payload -/
def sealL (p : List UInt8) : List UInt8 := headL p.length ++ sumB (headL p.length) ++ p ++ sumB p
theorem sumB_len (l : List UInt8) : (sumB l).length = 4 := rfl
theorem headL_len (n : Nat) : (headL n).length = 5 := rfl
theorem sealL_len (p : List UInt8) : (sealL p).length = p.length + 13 := by unfold sealL; simp [sumB_len, headL_len]; omega
def zs (m : Nat) : List Value := List.replicate m (.int .u8 0)
theorem splice_zs (x cs : List Value) (m off : Nat) (h : off = x.length) : splice (x ++ zs m) off cs = (x ++ cs) ++ zs (m - cs.length) := by
  subst h
  unfold splice zs
  rw [List.take_left' rfl, ← List.drop_drop, List.drop_left' rfl, List.drop_replicate, List.append_assoc]
theorem zs_len (m : Nat) : (zs m).length = m := List.length_replicate
theorem head_cells (n : Nat) (hn : n ≤ 65536) : ∃ a b c : Nat, bv (headL n) = [.int .u8 70, .int .u8 76, .int .u8 (a : Int), .int .u8 (b : Int), .int .u8 (c : Int)] ∧ (n : Int) % 256 = (a : Int) ∧ (n : Int) / 256 % 256 = (b : Int) ∧ (n : Int) / 65536 % 256 = (c : Int) ∧ (n : Int) / 65536 = (c : Int) ∧ (c : Int) % 256 = (c : Int) := by
  refine ⟨_, _, _, rfl, ?_, ?_, ?_, ?_, ?_⟩ <;> rw [ofNat_u8 _ (Nat.mod_lt _ (by omega))] <;> omega
theorem sSeal_long (A : Option Addr) (n c : Nat) (w : World) (hn : 65536 < n) (hn2 : n ≤ 4611686018427387904) :
    Calls Tryd.prog 18 #[.slice A n c] w fun e w' => e = .returned (.tuple #[.slice none 0 0, .int .i64 20]) ∧ w' = w := by
  have d0 : decide ((65536 : Int) < (n : Int)) = true := decide_eq_true (by omega)
  have d0' : decide (65536 < n) = true := decide_eq_true hn
  go_enter Tryd.func18, Tryd.ntmps18
  go_wp2
  go_ret2
  exact ⟨rfl, rfl⟩
set_option maxHeartbeats 2000000 in
theorem sSeal (A : Option Addr) (n c : Nat) (p : List UInt8) (w : World) (hl : p.length = n) (hn : n ≤ 65536) (hA : BR Any w A p) (hT : Tab w) :
    Calls Tryd.prog 18 #[.slice A n c] w fun e w' => ∃ g, e = .returned (.tuple #[.slice (some ⟨g, 0, none⟩) (n + 13) (n + 13), .int .i64 0]) ∧ w.heap.size ≤ g ∧ Bk w' g 5 (bv (sealL p)) ∧ Fr No w w' := by
  have HA := Lib.hid hA
  have HL := Lib.hid hl
  have HT := Lib.hid hT
  have d0 : decide ((65536 : Int) < (n : Int)) = false := decide_eq_false (by omega)
  have d0' : decide (65536 < n) = false := decide_eq_false (by omega)
  have hw13 : IntKind.i64.wrap ((n : Int) + 13) = (n : Int) + 13 := IntWalk.i64_in _ (by omega)
  obtain ⟨x2, x3, x4, hhd, e2, e3, e4, e4', e4''⟩ := head_cells n hn
  have HH := Lib.hid hhd
  clear hA hl hT hhd
  go_enter Tryd.func18, Tryd.ntmps18
  go_wp2_with (first | (at_make; refine wl_make w rfl (.tmp 13) (.tmp 13) 22 rfl 5 (.int .u8 0) 1 Tryd.underlying22 info8 rfl ((n : Int) + 13) (n + 13) rfl rfl (by omega) (by omega) (by unfold maxLen; omega) ?_; intro w1 hB1 hs1 hF1; have HB2 := Lib.hid ((show Bk w1 w.heap.size 5 ([] ++ zs (n + 13)) from hB1).alloc (.cells #[.int .u8 70, .int .u8 76, .int .u8 (x2 : Int), .int .u8 (x3 : Int), .int .u8 (x4 : Int)] 5 (0, 0))); have HF2 := Lib.hid (hF1.alloc (.cells #[.int .u8 70, .int .u8 76, .int .u8 (x2 : Int), .int .u8 (x3 : Int), .int .u8 (x4 : Int)] 5 (0, 0))); clear hB1 hF1) | (refine wl_copy (w1.alloc (.cells #[.int .u8 70, .int .u8 76, .int .u8 (x2 : Int), .int .u8 (x3 : Int), .int .u8 (x4 : Int)] 5 (0, 0))) rfl (.tmp 15) (.tmp 24) 22 22 rfl 5 Tryd.underlying22 size8 w.heap.size 0 (n + 13) (n + 13) (some ⟨w1.heap.size, 0, none⟩) 5 5 rfl rfl 5 _ HB2.out (bv (headL n)) (by rw [bv_len]; simp [headL]) (fun h0 => ⟨_, rfl, fun j v hj => by rw [add0]; rw [HH.out] at hj; exact ((Bk.new w1 5 _).cell j).trans hj⟩) (by rw [bv_len]; simp [headL, zs]) (bv_one _) ?_; intro w3 hB3 hF3))
  have HB3 := Lib.hid (show Bk w3 w.heap.size 5 (bv (headL n) ++ zs (n + 8)) by
    rw [splice_zs [] _ _ 0 rfl, bv_len, headL_len] at hB3
    exact hB3)
  have HF3 := Lib.hid (HF2.out.trans hF3 (fun j hj hk => by omega))
  have HT3 := Lib.hid (HT.out.no HF3.out)
  have HS1 := Lib.hid (sumBytes (some ⟨w.heap.size, 0, none⟩) 5 5 (headL n) w3 rfl (by omega) (BR.block (D := Any) HB3.out (fun j u hj => by rw [List.getElem?_append_left (by rw [bv_len, headL_len]; have := (List.getElem?_eq_some_iff.1 hj).1; rwa [bv_len, headL_len] at this)]; exact hj) trivial) HT3.out)
  clear hB3 hF3 HB2 HF2 hs1 e2 e3 e4 e4' e4''
  obtain ⟨g, hg⟩ : ∃ g, w.heap.size = g := ⟨_, rfl⟩
  have HG := Lib.hid hg
  rw [hg] at HB3 HS1 ⊢
  obtain ⟨s0, s1, s2, s3, hsv, _, _, _, _, _⟩ := four_cells (crcL (headL n))
  have HSV := Lib.hid (show bv (sumB (headL n)) = _ from hsv)
  rw [show bv (sumB (headL n)) = _ from hsv] at HS1
  clear hg hsv
  go_wp2_with fail
  refine HS1.out.mono ?_
  rintro e w4 ⟨rfl, hF4⟩
  obtain ⟨w5, hw5⟩ : ∃ w5, w4.alloc (.cells #[.int .u8 (s0 : Int), .int .u8 (s1 : Int), .int .u8 (s2 : Int), .int .u8 (s3 : Int)] 57 (0, 0)) = w5 := ⟨_, rfl⟩
  have hF5 : Fr No w3 w5 := by rw [← hw5]; exact hF4.alloc _
  have HB5 := Lib.hid (HB3.out.fr hF5 id)
  have HF5 := Lib.hid (HF3.out.then_ hF5)
  obtain ⟨b1, hb1⟩ : ∃ b1, w4.heap.size = b1 := ⟨_, rfl⟩
  have HX5 := Lib.hid (show Bk w5 b1 57 (bv (sumB (headL n))) by rw [← hw5, ← hb1, HSV.out]; exact Bk.new _ _ _)
  have hg1 : g < b1 := by rw [← hb1]; exact (HB3.out.fr hF4 id).lt
  have h9 : 9 ≤ n + 13 := by omega
  have h9a : (9 : Int) ≤ (n : Int) + 13 := by omega
  have h9b : (9 : Int) ≤ ((n + 13 : Nat) : Int) := by omega
  have h5a : (5 : Int) ≤ (n : Int) + 13 := by omega
  clear hF4 HB3 HF3 HT3 HS1 hF5
  go_wp2
  clear hb1 hw5
  go_still_tail 3, (by kernel_rfl)
  change wpList _ _ _ _ _ w5.drew
  generalize hw6 : w5.drew = w6
  have hF6 : Fr No w5 w6 := by rw [← hw6]; exact (Fr.refl _ _).drew
  have HB6 := Lib.hid (HB5.out.fr hF6 id)
  have HX6 := Lib.hid (HX5.out.fr hF6 id)
  have HF6 := Lib.hid (HF5.out.then_ hF6)
  clear hw6 hF6 HB5 HX5 HF5
  obtain ⟨Y, hY⟩ : ∃ Y, bv (headL n) ++ bv (sumB (headL n)) = Y := ⟨_, rfl⟩
  have HY := Lib.hid hY
  have hY9 : Y.length = 9 := by rw [← hY, List.length_append, bv_len, bv_len]; rfl
  have HY9 := Lib.hid hY9
  clear hY hY9
  go_wp2_with (first | (refine wl_copy w6 rfl (.tmp 30) (.tmp 31) 22 22 rfl 5 Tryd.underlying22 size8 g 5 4 4 (some ⟨b1, 0, none⟩) 4 4 rfl rfl 5 _ HB6.out (bv (sumB (headL n))) (by rw [bv_len, sumB_len]; rfl) (fun h0 => ⟨_, rfl, fun j v hj => by rw [add0]; exact (HX6.out.cell j).trans hj⟩) (by rw [List.length_append, bv_len, bv_len, headL_len, sumB_len, zs_len]; omega) (bv_one _) ?_; intro w7 hB7 hF7; have HB7 := Lib.hid (show Bk w7 g 5 (Y ++ zs (n + 4)) by rw [splice_zs _ _ _ 5 (by rw [bv_len]; rfl), HY.out, bv_len, sumB_len] at hB7; exact hB7); have HF7 := Lib.hid (HF6.out.trans hF7 (fun j hj hk => by have := HG.out; omega)); clear hB7 hF7 HB6 HX6 HF6) | (refine wl_copy w7 rfl (.tmp 34) (.tmp 35) 22 22 rfl 5 Tryd.underlying22 size8 g 9 _ _ A n c rfl rfl 5 _ HB7.out (bv p) (by rw [bv_len, HL.out]; simp [Nat.min_def]) (fun h0 => (HA.out.fr HF7.out (fun _ _ _ q => q)).cells (by rw [bv_len] at h0; exact h0)) (by rw [List.length_append, bv_len, HY9.out, HL.out, zs_len]; omega) (bv_one _) ?_; intro w8 hB8 hF8; have HB8 := Lib.hid (show Bk w8 g 5 (Y ++ bv p ++ zs 4) by rw [splice_zs _ _ _ 9 HY9.out.symm, bv_len, HL.out, Nat.add_sub_cancel_left] at hB8; exact hB8); have HF8 := Lib.hid (HF7.out.trans hF8 (fun j hj hk => by have := HG.out; omega)); clear hB8 hF8 HB7 HF7))
  have HT8 := Lib.hid (HT.out.no HF8.out)
  have HS2 := Lib.hid (sumBytes A n c p w8 HL.out (by omega) (HA.out.fr HF8.out (fun _ _ _ q => q)) HT8.out)
  obtain ⟨s4, s5, s6, s7, hsv, _, _, _, _, _⟩ := four_cells (crcL p)
  have HSV2 := Lib.hid (show bv (sumB p) = _ from hsv)
  rw [show bv (sumB p) = _ from hsv] at HS2
  clear hsv
  refine HS2.out.mono ?_
  rintro e w9 ⟨rfl, hF9⟩
  obtain ⟨w10, hw10⟩ : ∃ w10, w9.alloc (.cells #[.int .u8 (s4 : Int), .int .u8 (s5 : Int), .int .u8 (s6 : Int), .int .u8 (s7 : Int)] 57 (0, 0)) = w10 := ⟨_, rfl⟩
  have hF10 : Fr No w8 w10 := by rw [← hw10]; exact hF9.alloc _
  have HB10 := Lib.hid (HB8.out.fr hF10 id)
  have HF10 := Lib.hid (HF8.out.then_ hF10)
  obtain ⟨b2, hb2⟩ : ∃ b2, w9.heap.size = b2 := ⟨_, rfl⟩
  have HX10 := Lib.hid (show Bk w10 b2 57 (bv (sumB p)) by rw [← hw10, ← hb2, HSV2.out]; exact Bk.new _ _ _)
  have hg2 : g < b2 := by rw [← hb2]; exact (HB8.out.fr hF9 id).lt
  have hw9 : IntKind.i64.wrap (9 + (n : Int)) = 9 + (n : Int) := IntWalk.i64_in _ (by omega)
  have hn9 : 9 + n ≤ n + 13 := by omega
  have hn9a : (9 : Int) + (n : Int) ≤ (n : Int) + 13 := by omega
  have hn9b : (0 : Int) ≤ 9 + (n : Int) := by omega
  clear hF9 HB8 HF8 HT8 HS2 hF10
  go_wp2
  clear hb2 hw10
  go_still_tail 5, (by kernel_rfl)
  change wpList _ _ _ _ _ w10.drew
  generalize hw11 : w10.drew = w11
  have hF11 : Fr No w10 w11 := by rw [← hw11]; exact (Fr.refl _ _).drew
  have HB11 := Lib.hid (HB10.out.fr hF11 id)
  have HX11 := Lib.hid (HX10.out.fr hF11 id)
  have HF11 := Lib.hid (HF10.out.then_ hF11)
  clear hw11 hF11 HB10 HX10 HF10
  rw [show ((9 : Int) + (n : Int)).toNat = 9 + n by omega, if_neg (show ¬ n + 13 = 9 + n by omega), show n + 13 - (9 + n) = 4 by omega]
  go_wp2_with (first | (refine wl_copy w11 rfl (.tmp 42) (.tmp 43) 22 22 rfl 5 Tryd.underlying22 size8 g (9 + n) 4 4 (some ⟨b2, 0, none⟩) 4 4 rfl rfl 5 _ HB11.out (bv (sumB p)) (by rw [bv_len, sumB_len]; rfl) (fun h0 => ⟨_, rfl, fun j v hj => by rw [add0]; exact (HX11.out.cell j).trans hj⟩) (by rw [List.length_append, List.length_append, bv_len, bv_len, HY9.out, HL.out, sumB_len, zs_len]; omega) (bv_one _) ?_; intro w12 hB12 hF12))
  go_ret2
  refine ⟨g, rfl, by rw [HG.out]; exact Nat.le_refl _, ?_, HF11.out.trans hF12 (fun j hj hk => by have := HG.out; omega)⟩
  rw [splice_zs _ _ _ (9 + n) (by rw [List.length_append, HY9.out, bv_len, HL.out]), bv_len, sumB_len, ← HY.out] at hB12
  rw [sealL, bv_append, bv_append, bv_append, HL.out]
  simpa [zs] using hB12
end Go.Proofs.YtfpjdgkooikeoaaDoor.Sl
