/- The document's first examples. Conditions: none. -/
import Derived.Test.YtfpjdgkooikeoaaDoorSealH
import Derived.Lib.SlBytesConst
import Derived.Lib.SmallJoins
namespace Go.Proofs.YtfpjdgkooikeoaaDoor.Sl
open Go.RowKit Go.Proofs.YtfpjdgkooikeoaaDoor.Mem
set_option linter.unusedVariables false
set_option linter.unusedSimpArgs false
def abcL : List UInt8 := [0x46, 0x4C, 3, 0, 0, 0xF2, 0xB0, 0xAA, 0x2E, 97, 98, 99, 0xB7, 0x3F, 0x4B, 0x36]
theorem seal_abc : sealL [97, 98, 99] = abcL := by decide +kernel
theorem open_abc : openE abcL = 0 := by decide +kernel
theorem openP_abc : openP abcL = [97, 98, 99] := by decide +kernel
theorem sum_digits : (crcL [49, 50, 51, 52, 53, 54, 55, 56, 57]).toNat = 3808858755 := by decide +kernel
theorem lit_reads (w : World) (l : List UInt8) (C : List Value) (h : bv l = C) (fr : Nat × Nat) : BR Any (w.alloc (.cells C.toArray 5 fr)) (some ⟨w.heap.size, 0, none⟩) l := fun j u hj => by
  refine ⟨_, rfl, trivial, ?_⟩
  rw [add0, cell_of_row _ _ _ _ _ _ (heap_alloc_new w _)]
  subst h
  simp [bv, hj]
set_option maxHeartbeats 2000000 in
set_option maxRecDepth 100000 in
theorem shown (w : World) (hT : Tab w) : Calls Tryd.prog 11 #[] w fun e w' => e = .returned (.bool true) ∧ Fr No w w' := by
  have kc := fun (w : World) (C : Array Value) (n c : Nat) => Lib.run_convert_bytes_const (P := Tryd.prog) w 22 5 C n c Tryd.underlying22 Tryd.underlying5
  have HT := Lib.hid hT
  clear hT
  go_enter Tryd.func11, Tryd.ntmps11
  go_wp2_with fail
  obtain ⟨w1, hw1⟩ : ∃ w1, w.alloc (.cells #[.int .u8 97, .int .u8 98, .int .u8 99] 5 (3, 4)) = w1 := ⟨_, rfl⟩
  have hF1 : Fr No w w1 := by rw [← hw1]; exact (Fr.refl _ _).alloc _
  rw [hw1]
  refine (sSeal (some ⟨w.heap.size, 0, none⟩) 3 3 [97, 98, 99] w1 rfl (by omega) (by rw [← hw1]; exact lit_reads w [97, 98, 99] _ rfl (3, 4)) (HT.out.no hF1)).mono ?_
  rintro e w2 ⟨g, rfl, hg, hB2, hF2⟩
  rw [seal_abc] at hB2
  have HB2 := Lib.hid hB2
  have HF2 := Lib.hid (hF1.then_ hF2)
  clear hw1 hF1 hB2 hF2 hg
  go_wp2_with fail
  obtain ⟨w3, hw3⟩ : ∃ w3, w2.alloc (.cells #[.int .u8 70, .int .u8 76, .int .u8 3, .int .u8 0, .int .u8 0, .int .u8 242, .int .u8 176, .int .u8 170, .int .u8 46, .int .u8 97, .int .u8 98, .int .u8 99, .int .u8 183, .int .u8 63, .int .u8 75, .int .u8 54] 5 (0, 0)) = w3 := ⟨_, rfl⟩
  rw [hw3]
  have hF3 : Fr No w2 w3 := by rw [← hw3]; exact (Fr.refl _ _).alloc _
  refine (same (some ⟨g, 0, none⟩) (some ⟨w2.heap.size, 0, none⟩) 16 16 16 16 abcL abcL w3 (BR.of_block' (HB2.out.fr hF3 id)) (by rw [← hw3]; exact lit_reads w2 abcL _ rfl (0, 0)) rfl rfl (by omega) (by omega)).mono ?_
  rintro e w4 ⟨rfl, hF4⟩
  rw [show decide (abcL = abcL) = true from decide_eq_true rfl]
  have HB4 := Lib.hid ((HB2.out.fr hF3 id).fr hF4 id)
  have HF4 := Lib.hid ((HF2.out.then_ hF3).then_ hF4)
  have HT4 := Lib.hid (HT.out.no HF4.out)
  clear hw3 hF3 hF4 HB2 HF2
  go_wp2_with fail
  refine (sOpen (some ⟨g, 0, none⟩) 16 16 abcL w4 rfl (by omega) (by omega) (BR.of_block' HB4.out) HT4.out).mono ?_
  rintro e w5 ⟨A5, c5, rb5, rfl, hr5, hn5, hF5⟩
  rw [openP_abc] at hr5 ⊢
  rw [open_abc]
  have HR5 := Lib.hid hr5
  have HF5 := Lib.hid (HF4.out.then_ hF5)
  clear hr5 hn5 hF5 HB4 HF4 HT4
  go_wp2_with fail
  obtain ⟨w6, hw6⟩ : ∃ w6, w5.alloc (.cells #[.int .u8 97, .int .u8 98, .int .u8 99] 5 (3, 4)) = w6 := ⟨_, rfl⟩
  rw [hw6]
  have hF6 : Fr No w5 w6 := by rw [← hw6]; exact (Fr.refl _ _).alloc _
  refine (same A5 (some ⟨w5.heap.size, 0, none⟩) 3 3 c5 3 [97, 98, 99] [97, 98, 99] w6 ((Row.br (D := Any) HR5.out (fun _ _ => trivial)).fr hF6 (fun _ _ _ q => q)) (by rw [← hw6]; exact lit_reads w5 [97, 98, 99] _ rfl (3, 4)) rfl rfl (by omega) (by omega)).mono ?_
  rintro e w7 ⟨rfl, hF7⟩
  rw [show decide (([97, 98, 99] : List UInt8) = [97, 98, 99]) = true from decide_eq_true rfl]
  have HF7 := Lib.hid ((HF5.out.then_ hF6).then_ hF7)
  clear hw6 hF6 hF7 HR5 HF5
  go_wp2_with fail
  refine (sNew w7).mono ?_
  rintro e w8 ⟨rfl, hF8⟩
  have HF8 := Lib.hid (HF7.out.then_ hF8)
  clear hF8 HF7
  go_wp2_with fail
  obtain ⟨w9, hw9⟩ : ∃ w9, w8.alloc (.cells #[.int .u8 49, .int .u8 50, .int .u8 51, .int .u8 52, .int .u8 53, .int .u8 54, .int .u8 55, .int .u8 56, .int .u8 57] 5 (9, 10)) = w9 := ⟨_, rfl⟩
  rw [hw9]
  have hF9 : Fr No w8 w9 := by rw [← hw9]; exact (Fr.refl _ _).alloc _
  have HF9 := Lib.hid (HF8.out.then_ hF9)
  refine (sSum (some ⟨w8.heap.size, 0, none⟩) 9 9 [49, 50, 51, 52, 53, 54, 55, 56, 57] w9 rfl (by omega) (by rw [← hw9]; exact lit_reads w8 [49, 50, 51, 52, 53, 54, 55, 56, 57] _ rfl (9, 10)) (HT.out.no HF9.out)).mono ?_
  rintro e w10 ⟨rfl, rfl⟩
  rw [sum_digits]
  clear hw9 hF9 HF8
  go_wp2
  go_ret
  exact ⟨rfl, HF9.out⟩
end Go.Proofs.YtfpjdgkooikeoaaDoor.Sl
