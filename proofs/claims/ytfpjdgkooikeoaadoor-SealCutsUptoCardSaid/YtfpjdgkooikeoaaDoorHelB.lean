/- The document's Seal and Open: smaller parts. Conditions: none. -/
import Derived.Test.YtfpjdgkooikeoaaDoorSealO
namespace Go.Proofs.YtfpjdgkooikeoaaDoor.Sl
open Go.RowKit Go.Proofs.YtfpjdgkooikeoaaDoor.Mem
set_option linter.unusedVariables false
set_option linter.unusedSimpArgs false
def byteAt (S : BitVec 32) (i : Nat) : UInt8 := UInt8.ofNat (S.toNat / 256 ^ i % 256)
theorem four_at (S : BitVec 32) : four S = [byteAt S 0, byteAt S 1, byteAt S 2, byteAt S 3] := by
  unfold four byteAt
  simp
theorem and255 (X : Nat) (h : X < 4294967296) : bits .and .u32 (X : Int) 255 = ((X % 256 : Nat) : Int) := by
  show IntKind.u32.wrap ((BitVec.ofInt 32 (X : Int) &&& BitVec.ofInt 32 255).toNat : Int) = _
  rw [BitVec.ofInt_natCast, IntKind.wrap_u32', BitVec.toNat_and, show (BitVec.ofInt 32 255).toNat = 2 ^ 8 - 1 from rfl, Nat.and_two_pow_sub_one_eq_mod, BitVec.toNat_ofNat]
  omega
set_option maxHeartbeats 1000000 in
theorem rsumByte (S : BitVec 32) (i : Nat) (hi : i < 4) (w : World) :
    Calls Tryd.prog 44 #[.int .u32 (S.toNat : Int), .int .i64 (i : Int)] w fun e w' => e = .returned (.int .u8 ((byteAt S i).toNat : Int)) ∧ w' = w := by
  have hS := S.isLt
  obtain ⟨s, hs⟩ : ∃ s, S.toNat = s := ⟨_, rfl⟩
  have HS := Lib.hid hs
  rw [hs] at hS ⊢
  have HS0 := Lib.hid (show s = s / 256 ^ 0 by simp)
  clear hs
  go_enter Tryd.func44, Tryd.ntmps44
  go_wp2
  go_loopw [0, 5] (fun x j wr => wr = w ∧ ∃ (k X : Nat), k ≤ i ∧ j = .int .i64 (k : Int) ∧ x = .int .u32 (X : Int) ∧ X < 4294967296 ∧ Hid (X = s / 256 ^ k)) (fun _ j _ => i - (intOf j).toNat)
  case atStart => exact ⟨rfl, 0, s, Nat.zero_le _, rfl, rfl, by omega, HS0⟩
  case round =>
    clear HS0
    obtain ⟨rfl, k, X, hk, rfl, rfl, hX, HX⟩ := hrel
    by_cases hlt : k < i
    · have dk : decide ((k : Int) < (i : Int)) = true := decide_eq_true (by omega)
      have hw : IntKind.i64.wrap ((k : Int) + 1) = (k : Int) + 1 := IntWalk.i64_in _ (by omega)
      have h2 : (X : Int) / 256 = ((X / 256 : Nat) : Int) := by omega
      have HX2 := Lib.hid (show X / 256 = s / 256 ^ (k + 1) by rw [HX.out, Nat.div_div_eq_div_mul, ← Nat.pow_succ])
      have hX2 : X / 256 < 4294967296 := by omega
      generalize X / 256 = Y at *
      clear HX
      go_wp2
      go_roundw
      case rel => exact ⟨trivial, k + 1, Y, by omega, by go_num, rfl, hX2, HX2⟩
      case measure => simp [intOf]; omega
    · obtain rfl : k = i := by omega
      have dk : decide ((k : Int) < (k : Int)) = false := decide_eq_false (by omega)
      have h2 := and255 X hX
      have hm : X % 256 < 256 := Nat.mod_lt _ (by omega)
      have HB := Lib.hid (show (byteAt S k).toNat = X % 256 by unfold byteAt; rw [HS.out, ← HX.out, ofNat_u8 _ hm])
      generalize X % 256 = Y at *
      have h3 : (Y : Int) % 256 = (Y : Int) := by omega
      go_wp2
      go_ret
      exact ⟨by rw [HB.out]; rfl, rfl⟩
set_option maxHeartbeats 1000000 in
theorem rlength (A : Option Addr) (n c : Nat) (l : List UInt8) (w : World) (hl : l.length = n) (h5 : 5 ≤ n) (hA : BR Any w A l) :
    Calls Tryd.prog 43 #[.slice A n c] w fun e w' => e = .returned (.int .i64 (lenL l : Int)) ∧ Fr No w w' := by
  obtain ⟨ad, rfl, c2⟩ := hA.at_ 2 (by omega)
  obtain ⟨_, hq, c3⟩ := hA.at_ 3 (by omega)
  cases hq
  obtain ⟨_, hq, c4⟩ := hA.at_ 4 (by omega)
  cases hq
  have HE := Lib.hid (show lenL l = l[2].toNat + l[3].toNat * 256 + l[4].toNat * 65536 by
    unfold lenL
    simp only [List.getD_eq_getElem?_getD, List.getElem?_eq_getElem (show 2 < l.length by omega), List.getElem?_eq_getElem (show 3 < l.length by omega), List.getElem?_eq_getElem (show 4 < l.length by omega), Option.getD_some])
  have b2 := l[2].toNat_lt
  have b3 := l[3].toNat_lt
  have b4 := l[4].toNat_lt
  generalize l[2].toNat = x at *
  generalize l[3].toNat = y at *
  generalize l[4].toNat = z at *
  have d2 : (2 : Int) < (n : Int) := by omega
  have d3 : (3 : Int) < (n : Int) := by omega
  have d4 : (4 : Int) < (n : Int) := by omega
  have q1 : IntKind.i64.wrap ((y : Int) * 256) = (y : Int) * 256 := IntWalk.i64_in _ (by omega)
  have q2 : IntKind.i64.wrap ((z : Int) * 65536) = (z : Int) * 65536 := IntWalk.i64_in _ (by omega)
  have q3 : IntKind.i64.wrap ((x : Int) + (y : Int) * 256) = (x : Int) + (y : Int) * 256 := IntWalk.i64_in _ (by omega)
  have q4 : IntKind.i64.wrap ((x : Int) + (y : Int) * 256 + (z : Int) * 65536) = (x : Int) + (y : Int) * 256 + (z : Int) * 65536 := IntWalk.i64_in _ (by omega)
  rw [show ad.add 2 = ⟨ad.block, ad.off + 2, none⟩ from rfl] at c2
  rw [show ad.add 3 = ⟨ad.block, ad.off + 3, none⟩ from rfl] at c3
  rw [show ad.add 4 = ⟨ad.block, ad.off + 4, none⟩ from rfl] at c4
  clear hA hl
  go_enter Tryd.func43, Tryd.ntmps43
  go_wp2
  go_region
  go_wp2
  go_ret
  refine ⟨?_, (Fr.refl _ _).drew⟩
  show Ending.returned (Value.int .i64 _) = _
  rw [HE.out]
  congr 2
theorem four_get (S : BitVec 32) (k : Nat) (hk : k < 4) : (four S)[k]? = some (byteAt S k) := by
  rw [four_at]
  match k, hk with
  | 0, _ | 1, _ | 2, _ | 3, _ => rfl
theorem take4 (l : List UInt8) (o : Nat) (h : o + 4 ≤ l.length) (S : BitVec 32) : ((l.drop o).take 4 = four S) ↔ ∀ k, k < 4 → l[o + k]? = some (byteAt S k) := by
  constructor
  · intro e k hk
    have h2 : ((l.drop o).take 4)[k]? = (four S)[k]? := by rw [e]
    rwa [List.getElem?_take, if_pos hk, List.getElem?_drop, four_get S k hk] at h2
  · intro e
    apply List.ext_getElem?
    intro k
    by_cases hk : k < 4
    · rw [List.getElem?_take, if_pos hk, List.getElem?_drop, four_get S k hk, e k hk]
    · rw [List.getElem?_eq_none (by rw [List.length_take]; omega), List.getElem?_eq_none (by rw [four_at]; simp; omega)]
set_option maxHeartbeats 2000000 in
theorem rsummed (A : Option Addr) (n c o : Nat) (l : List UInt8) (S : BitVec 32) (w : World) (hl : l.length = n) (h : o + 4 ≤ n) (hn : n ≤ 4611686018427387904) (hA : BR Any w A l) :
    Calls Tryd.prog 42 #[.slice A n c, .int .i64 (o : Int), .int .u32 (S.toNat : Int)] w fun e w' => e = .returned (.bool (decide ((l.drop o).take 4 = four S))) ∧ Fr No w w' := by
  have HA := Lib.hid hA
  have HL := Lib.hid hl
  have HB := Lib.hid (take4 l o (by omega) S)
  have HSB := Lib.hid (fun i hi W => rsumByte S i hi W)
  clear hA
  go_enter Tryd.func42, Tryd.ntmps42
  go_wp2
  go_loopw [7] (fun i wr => ∃ k : Nat, k ≤ 4 ∧ i = .int .i64 (k : Int) ∧ Hid (∀ j, j < k → ∀ x, l[o + j]? = some x → x = byteAt S j) ∧ Hid (Fr No w wr)) (fun i _ => 4 - (intOf i).toNat)
  case atStart => exact ⟨0, Nat.zero_le _, rfl, (fun j hj => by omega), Fr.refl _ _⟩
  case round =>
    obtain ⟨k, hk, rfl, HE, HF⟩ := hrel
    by_cases hlt : k < 4
    · have hkl : o + k < l.length := by rw [HL.out]; omega
      obtain ⟨ad, rfl, hx⟩ := (HA.out.fr HF.out (fun _ _ _ q => q)).at_ (o + k) hkl
      have HX := Lib.hid (show l[o + k]? = some l[o + k] from List.getElem?_eq_getElem hkl)
      generalize l[o + k] = x at *
      have dk : decide ((k : Int) < 4) = true := decide_eq_true (by omega)
      have hw : IntKind.i64.wrap ((k : Int) + 1) = (k : Int) + 1 := IntWalk.i64_in _ (by omega)
      have hok : IntKind.i64.wrap ((o : Int) + (k : Int)) = (o : Int) + (k : Int) := IntWalk.i64_in _ (by omega)
      have ho1 : (o : Int) + (k : Int) < (n : Int) := by omega
      have ho0 : (0 : Int) ≤ (o : Int) + (k : Int) := by omega
      have hto : ((o : Int) + (k : Int)).toNat = o + k := by omega
      have HS := Lib.hid (fun W => HSB.out k hlt W)
      obtain ⟨y, hy⟩ : ∃ y, byteAt S k = y := ⟨_, rfl⟩
      have HY := Lib.hid hy
      rw [hy] at HS
      clear hy
      by_cases he : x = y
      · subst he
        have HE2 := Lib.hid (show ∀ j, j < k + 1 → ∀ z, l[o + j]? = some z → z = byteAt S j from fun j hj z hz => by
          by_cases hjk : j < k
          · exact HE.out j hjk z hz
          · obtain rfl : j = k := by omega
            rw [HX.out] at hz
            exact (Option.some.inj hz).symm.trans HY.out.symm)
        have e0 : ((x.toNat : Int) != (x.toNat : Int)) = false := by simp
        generalize x.toNat = X at *
        clear HE HX HY
        go_wp2
        go_quiet (first | (go_at_call 44; refine Calls.quiet_of_same (HS.out _)))
        go_wp2
        go_roundw
        case rel => exact ⟨k + 1, by omega, by go_num, HE2, HF.out.drewN _⟩
        case measure => simp [intOf]; omega
      · have HD : Hid (decide ((l.drop o).take 4 = four S) = false) := decide_eq_false (fun q => he (by
          have := HB.out.1 q k hlt
          rw [HX.out, HY.out] at this
          exact Option.some.inj this))
        have hb : ((x.toNat : Int) == (y.toNat : Int)) = false := by rw [u8_ne]; simpa using he
        have hb2 : ((x.toNat : Int) != (y.toNat : Int)) = true := by rw [bne, hb]; rfl
        generalize x.toNat = X at *
        generalize y.toNat = Y at *
        clear HE HX he
        go_wp2
        go_quiet (first | (go_at_call 44; refine Calls.quiet_of_same (HS.out _)))
        go_wp2
        go_ret
        exact ⟨by rw [HD.out]; rfl, HF.out.drewN _⟩
    · obtain rfl : k = 4 := by omega
      have HD : Hid (decide ((l.drop o).take 4 = four S) = true) := decide_eq_true (HB.out.2 (fun j hj => by
        have hlt2 : o + j < l.length := by rw [HL.out]; omega
        rw [List.getElem?_eq_getElem hlt2, HE.out j hj _ (List.getElem?_eq_getElem hlt2)]))
      clear HE
      go_wp2
      go_ret
      exact ⟨by rw [HD.out]; rfl, HF.out⟩
end Go.Proofs.YtfpjdgkooikeoaaDoor.Sl
