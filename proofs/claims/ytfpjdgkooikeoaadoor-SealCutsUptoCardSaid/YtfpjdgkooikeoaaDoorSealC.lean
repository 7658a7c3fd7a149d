/- The sum as it is laid down; the bytes of a head. Conditions: none. -/
import Derived.Test.YtfpjdgkooikeoaaDoorSealB
namespace Go.Proofs.YtfpjdgkooikeoaaDoor.Sl
open Go.RowKit Go.Proofs.YtfpjdgkooikeoaaDoor.Mem
set_option linter.unusedVariables false
set_option linter.unusedSimpArgs false
/-- the four bytes of a sum, the lowest first -/
def four (s : BitVec 32) : List UInt8 := [UInt8.ofNat (s.toNat % 256), UInt8.ofNat (s.toNat / 256 % 256), UInt8.ofNat (s.toNat / 65536 % 256), UInt8.ofNat (s.toNat / 16777216 % 256)]
def sumB (l : List UInt8) : List UInt8 := four (crcL l)
theorem ofNat_u8 (n : Nat) (h : n < 256) : (UInt8.ofNat n).toNat = n := by rw [UInt8.toNat_ofNat']; omega
theorem u8_wrap (n : Nat) : IntKind.u8.wrap (n : Int) = ((UInt8.ofNat (n % 256)).toNat : Int) := by
  rw [ofNat_u8 _ (Nat.mod_lt _ (by omega)), IntKind.wrap_u8']
  omega
theorem four_cells (S : BitVec 32) : ∃ x0 x1 x2 x3 : Nat, bv (four S) = [.int .u8 (x0 : Int), .int .u8 (x1 : Int), .int .u8 (x2 : Int), .int .u8 (x3 : Int)] ∧ (S.toNat : Int) % 256 = (x0 : Int) ∧ (S.toNat : Int) / 256 % 256 = (x1 : Int) ∧ (S.toNat : Int) / 65536 % 256 = (x2 : Int) ∧ (S.toNat : Int) / 16777216 = (x3 : Int) ∧ (x3 : Int) % 256 = (x3 : Int) := by
  have h := S.isLt
  refine ⟨_, _, _, _, rfl, ?_, ?_, ?_, ?_, ?_⟩ <;> rw [ofNat_u8 _ (Nat.mod_lt _ (by omega))] <;> omega
set_option maxHeartbeats 1000000 in
theorem sumBytes (A : Option Addr) (n c : Nat) (l : List UInt8) (w : World) (hl : l.length = n) (hn : n ≤ 4611686018427387904) (hA : BR Any w A l) (hT : Tab w) :
    Calls Tryd.prog 33 #[.slice A n c] w fun e w' => e = .returned (.agg (bv (sumB l)).toArray) ∧ Fr No w w' := by
  obtain ⟨w1, hw1⟩ : ∃ w1, w.alloc (.cells #[.int .u8 0, .int .u8 0, .int .u8 0, .int .u8 0] 57 (0, 0)) = w1 := ⟨_, rfl⟩
  have hF : Fr No w w1 := by rw [← hw1]; exact (Fr.refl _ _).alloc _
  have HS := Lib.hid (sSum A n c l w1 hl hn (hA.fr hF (fun _ _ _ q => q)) (hT.no hF))
  have HX := Lib.hid (show Bk w1 w.heap.size 57 [.int .u8 0, .int .u8 0, .int .u8 0, .int .u8 0] by rw [← hw1]; exact Bk.new _ _ _)
  have HF := Lib.hid hF
  obtain ⟨x0, x1, x2, x3, hx, g0, g1, g2, g3, g4⟩ := four_cells (crcL l)
  have HE := Lib.hid (show bv (sumB l) = _ from hx)
  clear hA hl hT hF hx
  go_enter Tryd.func33, Tryd.ntmps33
  go_wp2_with fail
  refine HS.out.mono ?_
  rintro e w2 ⟨rfl, rfl⟩
  clear hw1
  obtain ⟨X, hX⟩ : ∃ X, w.heap.size = X := ⟨_, rfl⟩
  have HXE := Lib.hid hX
  rw [hX] at HX ⊢
  clear hX
  obtain ⟨y0, y1, y2, y3, yf⟩ := HX.out.four
  generalize (crcL l).toNat = S at *
  go_wp2
  refine bodyPost_ret (v := .agg #[.int .u8 (x0 : Int), .int .u8 (x1 : Int), .int .u8 (x2 : Int), .int .u8 (x3 : Int)]) (by simp [results, Tryd.results33, go_sem, y0, y1, y2, y3]) rfl ⟨?_, ?_⟩
  · rw [HE.out]
  · have h0 := Nat.le_of_eq HXE.out
    exact (((HF.out.set (p := ⟨X, 0, none⟩) (.inr h0) _).set (p := ⟨X, 1, none⟩) (.inr h0) _).set (p := ⟨X, 2, none⟩) (.inr h0) _).set (p := ⟨X, 3, none⟩) (.inr h0) _
end Go.Proofs.YtfpjdgkooikeoaaDoor.Sl
