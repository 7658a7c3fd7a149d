/- Which of n things; a number as a text: walked. Conditions: none. -/
import Derived.Test.YtobnehbcnlhchaaVtR
import Derived.Lib.ConvBytes
import Derived.Laws.Strings
import Derived.Laws.Concat
import Derived.Shelf.Bytes.SlSmallAll
import Derived.Deep.RegionLaw
namespace Go.Proofs.Ytobnehbcnlhchaa.Vt
open Go.RowKit Go.Proofs.Ytobnehbcnlhchaa.Mem
set_option linter.unusedVariables false
set_option linter.unusedSimpArgs false
/-- which of n things a number speaks of -/
def pickN (c : Int) (n : Int) : Int := (if c < 0 then -(c + 1) else c) % n
theorem pick_is (c n : Int) (hc : (Lit.int .i64 c).wf = true) (hn : 0 < n) (hn2 : n ≤ 1000) (w : World) : Calls Try.prog 15 #[.int .i64 c, .int .i64 n] w fun e w' => e = .returned (.int .i64 (pickN c n)) ∧ w' = w := by
  have hb : -9223372036854775808 ≤ c ∧ c ≤ 9223372036854775807 := by simpa [Lit.wf, IntKind.min, IntKind.max, IntKind.signed, IntKind.bits] using hc
  by_cases h : c < 0
  · have d1 : decide (c < 0) = true := decide_eq_true h
    have w1 : IntKind.i64.wrap (c + 1) = c + 1 := IntWalk.i64_in _ (by omega)
    have w2 : IntKind.i64.wrap (-(c + 1)) = -(c + 1) := IntWalk.i64_in _ (by omega)
    obtain ⟨q, hq⟩ : ∃ q, -(c + 1) = q := ⟨_, rfl⟩
    have hq0 : 0 ≤ q := by omega
    have hp : pickN c n = q % n := by unfold pickN; rw [if_pos h, hq]
    have hm : q % n < n := Int.emod_lt_of_pos q hn
    have hm0 : 0 ≤ q % n := Int.emod_nonneg q (by omega)
    have w3 : IntKind.i64.wrap (q.tmod n) = q % n := by rw [Int.tmod_eq_emod_of_nonneg hq0]; exact IntWalk.i64_in _ (by omega)
    have w4 : IntKind.i64.wrap (q % n) = q % n := IntWalk.i64_in _ (by omega)
    have hn0 : ¬ n = 0 := by omega
    have ht : q.tmod n = q % n := Int.tmod_eq_emod_of_nonneg hq0
    rw [hq] at w2
    rw [hp]
    clear hc hb h hp hm hm0
    go_enter Try.func15, Try.ntmps15
    go_wp2
    go_ret
    exact ⟨rfl, rfl⟩
  · have d1 : decide (c < 0) = false := decide_eq_false h
    have hq0 : 0 ≤ c := by omega
    have hp : pickN c n = c % n := by unfold pickN; rw [if_neg h]
    have hm : c % n < n := Int.emod_lt_of_pos c hn
    have hm0 : 0 ≤ c % n := Int.emod_nonneg c (by omega)
    have w3 : IntKind.i64.wrap (c.tmod n) = c % n := by rw [Int.tmod_eq_emod_of_nonneg hq0]; exact IntWalk.i64_in _ (by omega)
    have w4 : IntKind.i64.wrap (c % n) = c % n := IntWalk.i64_in _ (by omega)
    have hn0 : ¬ n = 0 := by omega
    have ht : c.tmod n = c % n := Int.tmod_eq_emod_of_nonneg hq0
    rw [hp]
    clear hc hb h hp hm hm0
    go_enter Try.func15, Try.ntmps15
    go_wp2
    go_ret
    exact ⟨rfl, rfl⟩
theorem pickN_lt (c : Int) (n : Nat) (hn : 0 < n) : ∃ k : Nat, k < n ∧ pickN c n = (k : Int) := by
  have h1 : 0 ≤ pickN c n := Int.emod_nonneg _ (by omega)
  have h2 : pickN c n < n := Int.emod_lt_of_pos _ (by omega)
  exact ⟨(pickN c n).toNat, by omega, by omega⟩
theorem nums (l : List UInt8) : strOfNums (l.map fun b => (b.toNat : Int)) = ⟨l.toArray⟩ := by
  unfold strOfNums
  rw [List.map_map]
  have : ((fun n : Int => UInt8.ofNat n.toNat) ∘ fun b : UInt8 => (b.toNat : Int)) = id := by
    funext b
    show UInt8.ofNat ((b.toNat : Int)).toNat = b
    rw [Int.toNat_natCast, UInt8.ofNat_toNat]
  rw [this, List.map_id]
theorem conv (A : Option Addr) (n c : Nat) (l : List UInt8) (w : World) (hl : l.length = n) (hA : BR Any w A l) : (convert 123 9 (.slice A n c)).run Try.prog w = .ok (.string ⟨l.toArray⟩) w := by
  rcases Nat.eq_zero_or_pos n with rfl | hn
  · obtain rfl : l = [] := List.eq_nil_of_length_eq_zero hl
    exact run_convert_bytes_zero w 123 5 Try.underlying123 Try.underlying5 A c 9 Try.underlying9
  · obtain ⟨ad, rfl, h⟩ := hA.cells (by omega)
    obtain ⟨b, off, sp⟩ := ad
    have h0 := h 0 _ (List.getElem?_eq_getElem (by rw [bv_len]; omega))
    obtain rfl : sp = none := by
      cases sp with
      | none => rfl
      | some s =>
        exfalso
        rw [show (⟨b, off, some s⟩ : Addr).add 0 = ⟨b, off, some s⟩ from rfl] at h0
        unfold World.cell? at h0
        split at h0
        · simp at h0
        · cases h0
    rw [← nums]
    refine run_convert_bytes_arg w 123 5 Try.underlying123 Try.underlying5 b off n c _ (by simpa using hl) (fun i hi => ?_) 9 Try.underlying9
    have hil : i < l.length := by omega
    have := h i (.int .u8 (l[i].toNat : Int)) (by unfold bv; rw [List.getElem?_map, List.getElem?_eq_getElem hil]; rfl)
    rw [show (⟨b, off, none⟩ : Addr).add i = ⟨b, off + i, none⟩ by unfold Addr.add; split <;> simp_all] at this
    rw [this, List.getD_eq_getElem?_getD, List.getElem?_map, List.getElem?_eq_getElem hil]
    rfl
def by8 (x : Int) : UInt8 := UInt8.ofNat (x % 256).toNat
theorem by8_nat (x : Int) : (((by8 x).toNat : Nat) : Int) = x % 256 := by
  have h1 : 0 ≤ x % 256 := Int.emod_nonneg _ (by decide)
  have h2 : x % 256 < 256 := Int.emod_lt_of_pos _ (by decide)
  unfold by8
  rw [UInt8.toNat_ofNat', show ((x % 256).toNat % 2 ^ 8 : Nat) = (x % 256).toNat by omega]
  omega
def textL (v : Int) : List UInt8 := [by8 v, by8 (v / 256), by8 (v / 65536)]
/-- a number as a text -/
def textV (v : Int) : ByteArray := ⟨(textL v).toArray⟩
theorem textV_ne (v : Int) : textV v ≠ ByteArray.empty := fun h => by
  have := congrArg (fun b : ByteArray => b.size) h
  simp [textV, textL, ByteArray.size] at this
set_option maxRecDepth 100000 in
theorem text_is (v : Int) (w : World) : Calls Try.prog 40 #[.int .i64 v] w fun e w' => e = .returned (.string (textV v)) ∧ w' = w.alloc (.cells (bv (textL v)).toArray 5 (0, 0)) := by
  have hcv : (convert 123 9 (.slice (some ⟨w.heap.size, 0, none⟩) 3 3)).run Try.prog (w.alloc (.cells (bv (textL v)).toArray 5 (0, 0))) = .ok (.string (textV v)) (w.alloc (.cells (bv (textL v)).toArray 5 (0, 0))) :=
    conv (some ⟨w.heap.size, 0, none⟩) 3 3 (textL v) _ rfl (BR.of_block (Bk.new w 5 (bv (textL v))) trivial)
  have hcells : (bv (textL v)).toArray = #[Value.int .u8 (v % 256), Value.int .u8 (v / 256 % 256), Value.int .u8 (v / 65536 % 256)] := by
    simp [bv, textL, by8_nat]
  have HC := Lib.hid hcells
  rw [hcells] at hcv
  obtain ⟨T, hT⟩ : ∃ T, textV v = T := ⟨_, rfl⟩
  rw [hT] at hcv
  have HT := Lib.hid hT
  clear hcells hT
  go_enter Try.func40, Try.ntmps40
  go_wp2
  go_ret
  rw [HT.out, HC.out]
  exact ⟨rfl, rfl⟩
end Go.Proofs.Ytobnehbcnlhchaa.Vt
