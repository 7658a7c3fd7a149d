/- bytes.Equal; what a head says; bytes of their own. Conditions: none. -/
import Derived.Test.YtfpjdgkooikeoaaDoorSealC
import Derived.Shelf.Bytes.SlSmallAll
import Derived.Deep.QuietTactic
import Derived.BigQuiet
namespace Go.Proofs.YtfpjdgkooikeoaaDoor.Sl
open Go.RowKit Go.Proofs.YtfpjdgkooikeoaaDoor.Mem
set_option linter.unusedVariables false
set_option linter.unusedSimpArgs false
def ofL (l : List UInt8) : ByteArray := ⟨l.toArray⟩
theorem ofL_inj {a b : List UInt8} : (ofL a = ofL b) ↔ a = b := ⟨fun h => by
  have := congrArg (fun x : ByteArray => x.data.toList) h
  simpa [ofL] using this, fun h => by rw [h]⟩
theorem nums (l : List UInt8) : strOfNums (l.map fun b => (b.toNat : Int)) = ofL l := by
  unfold strOfNums ofL
  rw [List.map_map]
  have : ((fun n : Int => UInt8.ofNat n.toNat) ∘ fun b : UInt8 => (b.toNat : Int)) = id := by
    funext b
    show UInt8.ofNat ((b.toNat : Int)).toNat = b
    rw [Int.toNat_natCast, UInt8.ofNat_toNat]
  rw [this, List.map_id]
theorem conv (A : Option Addr) (n c : Nat) (l : List UInt8) (w : World) (hl : l.length = n) (hA : BR Any w A l) : (convert 22 9 (.slice A n c)).run Tryd.prog w = .ok (.string (ofL l)) w := by
  rcases Nat.eq_zero_or_pos n with rfl | hn
  · obtain rfl : l = [] := List.eq_nil_of_length_eq_zero hl
    exact run_convert_bytes_zero w 22 5 Tryd.underlying22 Tryd.underlying5 A c 9 Tryd.underlying9
  · obtain ⟨ad, rfl, h⟩ := hA.cells (by omega)
    obtain ⟨b, off, sp⟩ := ad
    have h0 := h 0 _ (List.getElem?_eq_getElem (by rw [bv_len]; omega))
    obtain rfl : sp = none := by
      cases sp with
      | none => rfl
      | some s =>
        exfalso
        rw [show (⟨b, off, some s⟩ : Addr).add 0 = ⟨b, off, some s⟩ from rfl] at h0
        unfold World.cell? at h0
        split at h0
        · simp at h0
        · cases h0
    rw [← nums]
    refine run_convert_bytes_arg w 22 5 Tryd.underlying22 Tryd.underlying5 b off n c _ (by simpa using hl) (fun i hi => ?_) 9 Tryd.underlying9
    have hil : i < l.length := by omega
    have := h i (.int .u8 (l[i].toNat : Int)) (by unfold bv; rw [List.getElem?_map, List.getElem?_eq_getElem hil]; rfl)
    rw [show (⟨b, off, none⟩ : Addr).add i = ⟨b, off + i, none⟩ by unfold Addr.add; split <;> simp_all] at this
    rw [this, List.getD_eq_getElem?_getD, List.getElem?_map, List.getElem?_eq_getElem hil]
    rfl
theorem bEqual (A B : Option Addr) (n m c d : Nat) (x y : List UInt8) (w : World) (hx : x.length = n) (hy : y.length = m) (hA : BR Any w A x) (hB : BR Any w B y) :
    Calls Tryd.prog 34 #[.slice A n c, .slice B m d] w fun e w' => e = .returned (.bool (decide (x = y))) ∧ w' = w := by
  have h1 := conv A n c x w hx hA
  have h2 := conv B m d y w hy hB
  have HE := Lib.hid (show decide (x = y) = decide (ofL x = ofL y) from by simp [ofL_inj])
  obtain ⟨p, hp⟩ : ∃ p, ofL x = p := ⟨_, rfl⟩
  obtain ⟨q, hq⟩ : ∃ q, ofL y = q := ⟨_, rfl⟩
  have HQ := Lib.hid (show (p.data = q.data) ↔ (p = q) from ⟨fun h => by cases p; cases q; simp_all, fun h => by rw [h]⟩)
  rw [hp] at h1
  rw [hq] at h2
  rw [hp, hq] at HE
  clear hA hB hx hy hp hq
  go_enter Tryd.func34, Tryd.ntmps34
  go_wp2
  go_ret
  refine ⟨?_, rfl⟩
  show Ending.returned (Value.bool (p.toList == q.toList)) = _
  rw [HE.out, ByteArray.toList_eq, ByteArray.toList_eq]
  congr 2
  rw [Bool.eq_iff_iff]
  simp [HQ.out]
/-- what the bytes 2 to 4 say -/
def lenL (l : List UInt8) : Nat := (l.getD 2 0).toNat + (l.getD 3 0).toNat * 256 + (l.getD 4 0).toNat * 65536
theorem lenL_lt (l : List UInt8) : lenL l < 16777216 := by
  have h2 := (l.getD 2 0).toNat_lt
  have h3 := (l.getD 3 0).toNat_lt
  have h4 := (l.getD 4 0).toNat_lt
  unfold lenL
  omega
theorem or64 (a b k : Nat) (ha : a < 2 ^ k) (h : a + b * 2 ^ k < 9223372036854775808) : bits .or .i64 (a : Int) ((b * 2 ^ k : Nat) : Int) = ((a + b * 2 ^ k : Nat) : Int) := by
  have h1 : a ||| b * 2 ^ k = a + b * 2 ^ k := by
    have := Nat.shiftLeft_add_eq_or_of_lt ha b
    rw [Nat.shiftLeft_eq] at this
    rw [Nat.or_comm, ← this, Nat.add_comm]
  show IntKind.i64.wrap ((BitVec.ofInt 64 (a : Int) ||| BitVec.ofInt 64 ((b * 2 ^ k : Nat) : Int)).toNat : Int) = _
  rw [BitVec.ofInt_natCast, BitVec.ofInt_natCast, BitVec.toNat_or, BitVec.toNat_ofNat, BitVec.toNat_ofNat, Nat.mod_eq_of_lt (by omega), Nat.mod_eq_of_lt (by omega), h1]
  exact IntWalk.i64_in _ (by omega)
set_option maxHeartbeats 1000000 in
theorem slength (A : Option Addr) (n c : Nat) (l : List UInt8) (w : World) (hl : l.length = n) (h5 : 5 ≤ n) (hA : BR Any w A l) :
    Calls Tryd.prog 35 #[.slice A n c] w fun e w' => e = .returned (.int .i64 (lenL l : Int)) ∧ Fr No w w' := by
  obtain ⟨ad, rfl, c2⟩ := hA.at_ 2 (by omega)
  obtain ⟨_, hq, c3⟩ := hA.at_ 3 (by omega)
  cases hq
  obtain ⟨_, hq, c4⟩ := hA.at_ 4 (by omega)
  cases hq
  have HE := Lib.hid (show lenL l = l[2].toNat + l[3].toNat * 256 + l[4].toNat * 65536 by
    unfold lenL
    simp only [List.getD_eq_getElem?_getD, List.getElem?_eq_getElem (show 2 < l.length by omega), List.getElem?_eq_getElem (show 3 < l.length by omega), List.getElem?_eq_getElem (show 4 < l.length by omega), Option.getD_some])
  have b2 := l[2].toNat_lt
  have b3 := l[3].toNat_lt
  have b4 := l[4].toNat_lt
  generalize l[2].toNat = x at *
  generalize l[3].toNat = y at *
  generalize l[4].toNat = z at *
  have d2 : (2 : Int) < (n : Int) := by omega
  have d3 : (3 : Int) < (n : Int) := by omega
  have d4 : (4 : Int) < (n : Int) := by omega
  rw [show ad.add 2 = ⟨ad.block, ad.off + 2, none⟩ from rfl] at c2
  rw [show ad.add 3 = ⟨ad.block, ad.off + 3, none⟩ from rfl] at c3
  rw [show ad.add 4 = ⟨ad.block, ad.off + 4, none⟩ from rfl] at c4
  clear hA hl
  go_enter Tryd.func35, Tryd.ntmps35
  go_wp2
  go_region
  go_wp2
  have e1 : bits .or .i64 (x : Int) ((y : Int) * 256) = ((x + y * 256 : Nat) : Int) := by have := or64 x y 8 (by omega) (by omega); simpa using this
  have e2 : bits .or .i64 ((x + y * 256 : Nat) : Int) ((z : Int) * 65536) = ((x + y * 256 + z * 65536 : Nat) : Int) := by have := or64 (x + y * 256) z 16 (by omega) (by omega); simpa using this
  go_ret
  refine ⟨?_, (Fr.refl _ _).drew⟩
  show Ending.returned (Value.int .i64 (bits .or .i64 (bits .or .i64 (x : Int) ((y : Int) * 256)) ((z : Int) * 65536))) = _
  rw [e1, e2, HE.out]
theorem rep_bv (n : Nat) (l : List UInt8) (hl : l.length = n) : splice (List.replicate n (Value.int .u8 0)) 0 (bv l) = bv l := by
  unfold splice
  rw [List.take_zero, List.nil_append, Nat.zero_add, bv_len, hl, List.drop_replicate, Nat.sub_self, List.replicate_zero, List.append_nil]
theorem info8 : (Tryd.prog.info? 5).map (fun i => (i.zero, i.size, i.bytes)) = some (some (.int .u8 0), 1, 1) := by kernel_rfl
theorem size8 : (Tryd.prog.info? 5).map (·.size) = some 1 := by kernel_rfl
theorem scopied (A : Option Addr) (n c : Nat) (l : List UInt8) (w : World) (hl : l.length = n) (hn : n ≤ 140737488355328) (hA : BR Any w A l) :
    Calls Tryd.prog 36 #[.slice A n c] w fun e w' => e = .returned (.slice (some ⟨w.heap.size, 0, none⟩) n n) ∧ Bk w' w.heap.size 5 (bv l) ∧ Fr No w w' := by
  have HA := Lib.hid hA
  have HL := Lib.hid hl
  clear hA hl
  go_enter Tryd.func36, Tryd.ntmps36
  go_wp2_with (first | (at_make; refine wl_make w rfl (.tmp 5) (.tmp 5) 22 rfl 5 (.int .u8 0) 1 Tryd.underlying22 info8 rfl (n : Int) n rfl rfl rfl (by omega) (by unfold maxLen; omega) ?_; intro w1 hB1 hs1 hF1) | (refine wl_copy w1 rfl (.tmp 7) (.tmp 8) 22 22 rfl 5 Tryd.underlying22 size8 w.heap.size 0 n n A n c rfl rfl 5 _ hB1 (bv l) (by rw [bv_len, HL.out]; simp) (fun h0 => (HA.out.fr (S := No) hF1 (fun _ _ _ q => q)).cells (by rw [bv_len] at h0; exact h0)) (by rw [bv_len, HL.out]; simp) (bv_one l) ?_; intro w2 hB2 hF2))
  rw [rep_bv n l HL.out] at hB2
  go_ret
  exact ⟨rfl, hB2, hF1.trans hF2 (fun k hk q => by omega)⟩
end Go.Proofs.YtfpjdgkooikeoaaDoor.Sl
