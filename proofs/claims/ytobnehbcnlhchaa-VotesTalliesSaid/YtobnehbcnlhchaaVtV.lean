/- VotesTallies: how its script reads; the first loop. Conditions: none. -/
import Derived.Test.YtobnehbcnlhchaaVtP
import Derived.Test.YtobnehbcnlhchaaVtQ
import Derived.Test.YtobnehbcnlhchaaVtZ
import Derived.Test.YtobnehbcnlhchaaVtC
import Derived.StillTailTactics
namespace Go.Proofs.Ytobnehbcnlhchaa.Vt
open Go.RowKit Go.Proofs.Ytobnehbcnlhchaa.Mem
set_option linter.unusedVariables false
set_option linter.unusedSimpArgs false
/-- a step -/
structure StepW where (kind on who v : Int)
def StepW.wf (o : StepW) : Prop := (Lit.int .i64 o.on).wf = true ∧ (Lit.int .i64 o.who).wf = true ∧ (Lit.int .i64 o.v).wf = true
/-- a slice at A reads as these steps -/
def SR (w : World) (A : Option Addr) (xs : List StepW) : Prop := ∀ (j : Nat) (o : StepW), xs[j]? = some o → ∃ ad, A = some ad ∧
  w.cell? (ad.add (j * 4)) = some (.int .i64 o.kind) ∧ w.cell? ⟨(ad.add (j * 4)).block, (ad.add (j * 4)).off + 1, none⟩ = some (.int .i64 o.on) ∧ w.cell? ⟨(ad.add (j * 4)).block, (ad.add (j * 4)).off + 2, none⟩ = some (.int .i64 o.who) ∧
  w.cell? ⟨(ad.add (j * 4)).block, (ad.add (j * 4)).off + 3, none⟩ = some (.int .i64 o.v)
/-- a slice at A reads as these numbers -/
def NR (w : World) (A : Option Addr) (l : List Int) : Prop := ∀ (j : Nat) (x : Int), l[j]? = some x → ∃ ad, A = some ad ∧ w.cell? (ad.add j) = some (.int .i64 x)
theorem cell_fr {w w1 : World} (hf : Fr No w w1) {a : Addr} {v : Value} (h : w.cell? a = some v) : w1.cell? a = some v := (hf.to.cell (World.block_lt_of_cell? w a h)).trans h
theorem SR.fr {w w1 : World} {A : Option Addr} {xs : List StepW} (h : SR w A xs) (hf : Fr No w w1) : SR w1 A xs := fun j o hj => by
  obtain ⟨ad, hA, h0, h1, h2, h3⟩ := h j o hj
  exact ⟨ad, hA, cell_fr hf h0, cell_fr hf h1, cell_fr hf h2, cell_fr hf h3⟩
theorem NR.fr {w w1 : World} {A : Option Addr} {l : List Int} (h : NR w A l) (hf : Fr No w w1) : NR w1 A l := fun j x hj => by
  obtain ⟨ad, hA, h0⟩ := h j x hj
  exact ⟨ad, hA, cell_fr hf h0⟩
theorem add_zero (ad : Addr) : ad.add 0 = ad := by simp [Addr.add]
theorem add_pos (ad : Addr) (k : Nat) : ad.add (k + 1) = ⟨ad.block, ad.off + (k + 1), none⟩ := by simp [Addr.add]
set_option maxHeartbeats 400000000 in
set_option maxRecDepth 100000 in
theorem tallies_walk (w : World) (A A' : Option Addr) (c c' : Nat) (l : List Int) (xs : List StepW) (hA : NR w A l) (hl : l.length ≤ 4611686018427387904) (hX : SR w A' xs) (hx : xs.length ≤ 4611686018427387904) (hwf : ∀ o ∈ xs, o.wf) :
    Calls Try.prog 4 #[.slice A l.length c, .slice A' xs.length c'] w fun e w' => e = .returned (.bool true) ∧ Fr No w w' := by
  have HA := Lib.hid hA
  have HX := Lib.hid hX
  have HW := Lib.hid hwf
  obtain ⟨m, hm⟩ : ∃ m, l.length = m := ⟨_, rfl⟩
  obtain ⟨q, hq⟩ : ∃ q, xs.length = q := ⟨_, rfl⟩
  rw [hm] at hl ⊢
  rw [hq] at hx ⊢
  have HM := Lib.hid hm
  have HQ := Lib.hid hq
  obtain ⟨n0, hn0⟩ : ∃ n, w.heap.size = n := ⟨_, rfl⟩
  have HN0 := Lib.hid hn0
  clear hA hX hwf hm hq hn0
  go_enter Try.func4, Try.ntmps4
  go_wp2_with fail
  refine (shown w).mono ?_
  rintro e w1 ⟨rfl, hF1⟩
  obtain ⟨L, hL⟩ : ∃ L, w1.heap.size = L := ⟨_, rfl⟩
  have HF1 := Lib.hid hF1
  have HL := Lib.hid hL
  have HS0 := Lib.hid (show Sys n0 L (w1.alloc (.cells #[.pointer none, .pointer none, .pointer none, .pointer none, .pointer none, .pointer none, .pointer none, .pointer none, .pointer none] 45 (0, 0))) (fun _ => none) from
    ⟨by rw [← hL]; exact Bk.new w1 45 _, by rw [← hL, ← HN0.out]; exact hF1.size, fun i x h => by (cases h), fun i j x y _ h => by (cases h)⟩)
  clear hF1 hL
  go_wp2
  rw [HL.out]
  go_loopw [7] (fun kv wr => ∃ k : Int, 0 ≤ k ∧ k ≤ 3 ∧ kv = .int .i64 k ∧ Hid (∃ f, Sys n0 L wr f ∧ Fr No w wr)) (fun kv _ => 3 - (intOf kv).toNat)
  case atStart => exact ⟨0, by omega, by omega, rfl, _, HS0.out, HF1.out.alloc _⟩
  case round =>
    clear HS0 HF1
    obtain ⟨k, hk0, hk, rfl, HSx⟩ := hrel
    obtain ⟨f, hS, hF⟩ := HSx.out
    have HS := Lib.hid hS
    have HF := Lib.hid hF
    clear hS hF HSx
    by_cases hlt : k < 3
    · obtain rfl | rfl | rfl : k = 0 ∨ k = 1 ∨ k = 2 := by omega
      · clear hk0 hk hlt
        by_cases hkl : 0 < m
        · obtain ⟨v, hv⟩ : ∃ v, l[0]? = some v := ⟨_, List.getElem?_eq_getElem (by rw [HM.out]; exact hkl)⟩
          obtain ⟨ad, rfl, x0⟩ := (HA.out.fr HF.out) 0 v hv
          rw [add_zero] at x0
          have hkm : ((0 : Int) < (m : Int)) := by omega
          clear hv
          go_wp2_with fail
          refine (made_any v wr).mono ?_
          rintro e w3 ⟨s, he, hF3, hT3⟩
          unfold Slot.v at he
          subst he
          obtain ⟨pA, hpA⟩ : ∃ x, Slot.pa s = x := ⟨_, rfl⟩
          obtain ⟨pB, hpB⟩ : ∃ x, Slot.pb s = x := ⟨_, rfl⟩
          obtain ⟨pR, hpR⟩ : ∃ x, Slot.pr s = x := ⟨_, rfl⟩
          rw [hpA, hpB, hpR]
          obtain ⟨w4, hw4⟩ : ∃ x, w3.alloc (.cells #[.pointer pA, .pointer pB, .pointer pR] 44 (0, 0)) = x := ⟨_, rfl⟩
          have HF4 := Lib.hid (show Fr No wr w4 by rw [← hw4]; exact hF3.alloc _)
          have HSP := Lib.hid (HS.out.laid (by rw [← HN0.out]; exact HF.out.size) HF4.out (fun x hx => ⟨(hT3 x hx).1.fr (show Fr No w3 w4 by rw [← hw4]; exact (Fr.refl _ _).alloc _) (fun _ _ q => q), (hT3 x hx).2⟩) 0 (by omega))
          obtain ⟨c0, c1, c2, hLF⟩ := (HS.out.fr HF4.out).cells 0 (by omega)
          rw [hpA, hpB, hpR] at HSP
          have hat := HS.out.at_
          rw [← hw4] at hLF c0 c1 c2
          have HW4 := Lib.hid hw4
          clear hF3 hT3 hpA hpB hpR hw4
          clear x0
          go_wp2
          rw [HW4.out]
          go_roundw
          case rel => exact ⟨1, by omega, by omega, rfl, _, HSP.out, fr_put3 (HF.out.then_ HF4.out) (by rw [HN0.out]; exact hat) _ _ _ _ _ _⟩
          case measure => simp [intOf]
        · have hkm : ¬ ((0 : Int) < (m : Int)) := by omega
          go_wp2_with fail
          refine (made_any 3 wr).mono ?_
          rintro e w3 ⟨s, he, hF3, hT3⟩
          unfold Slot.v at he
          subst he
          obtain ⟨pA, hpA⟩ : ∃ x, Slot.pa s = x := ⟨_, rfl⟩
          obtain ⟨pB, hpB⟩ : ∃ x, Slot.pb s = x := ⟨_, rfl⟩
          obtain ⟨pR, hpR⟩ : ∃ x, Slot.pr s = x := ⟨_, rfl⟩
          rw [hpA, hpB, hpR]
          obtain ⟨w4, hw4⟩ : ∃ x, w3.alloc (.cells #[.pointer pA, .pointer pB, .pointer pR] 44 (0, 0)) = x := ⟨_, rfl⟩
          have HF4 := Lib.hid (show Fr No wr w4 by rw [← hw4]; exact hF3.alloc _)
          have HSP := Lib.hid (HS.out.laid (by rw [← HN0.out]; exact HF.out.size) HF4.out (fun x hx => ⟨(hT3 x hx).1.fr (show Fr No w3 w4 by rw [← hw4]; exact (Fr.refl _ _).alloc _) (fun _ _ q => q), (hT3 x hx).2⟩) 0 (by omega))
          obtain ⟨c0, c1, c2, hLF⟩ := (HS.out.fr HF4.out).cells 0 (by omega)
          rw [hpA, hpB, hpR] at HSP
          have hat := HS.out.at_
          rw [← hw4] at hLF c0 c1 c2
          have HW4 := Lib.hid hw4
          clear hF3 hT3 hpA hpB hpR hw4
          go_wp2
          rw [HW4.out]
          go_roundw
          case rel => exact ⟨1, by omega, by omega, rfl, _, HSP.out, fr_put3 (HF.out.then_ HF4.out) (by rw [HN0.out]; exact hat) _ _ _ _ _ _⟩
          case measure => simp [intOf]
      · clear hk0 hk hlt
        by_cases hkl : 1 < m
        · obtain ⟨v, hv⟩ : ∃ v, l[1]? = some v := ⟨_, List.getElem?_eq_getElem (by rw [HM.out]; exact hkl)⟩
          obtain ⟨ad, rfl, x0⟩ := (HA.out.fr HF.out) 1 v hv
          rw [add_pos ad 0] at x0
          have hkm : ((1 : Int) < (m : Int)) := by omega
          clear hv
          go_wp2_with fail
          refine (made_any v wr).mono ?_
          rintro e w3 ⟨s, he, hF3, hT3⟩
          unfold Slot.v at he
          subst he
          obtain ⟨pA, hpA⟩ : ∃ x, Slot.pa s = x := ⟨_, rfl⟩
          obtain ⟨pB, hpB⟩ : ∃ x, Slot.pb s = x := ⟨_, rfl⟩
          obtain ⟨pR, hpR⟩ : ∃ x, Slot.pr s = x := ⟨_, rfl⟩
          rw [hpA, hpB, hpR]
          obtain ⟨w4, hw4⟩ : ∃ x, w3.alloc (.cells #[.pointer pA, .pointer pB, .pointer pR] 44 (0, 0)) = x := ⟨_, rfl⟩
          have HF4 := Lib.hid (show Fr No wr w4 by rw [← hw4]; exact hF3.alloc _)
          have HSP := Lib.hid (HS.out.laid (by rw [← HN0.out]; exact HF.out.size) HF4.out (fun x hx => ⟨(hT3 x hx).1.fr (show Fr No w3 w4 by rw [← hw4]; exact (Fr.refl _ _).alloc _) (fun _ _ q => q), (hT3 x hx).2⟩) 1 (by omega))
          obtain ⟨c0, c1, c2, hLF⟩ := (HS.out.fr HF4.out).cells 1 (by omega)
          rw [hpA, hpB, hpR] at HSP
          have hat := HS.out.at_
          rw [← hw4] at hLF c0 c1 c2
          have HW4 := Lib.hid hw4
          clear hF3 hT3 hpA hpB hpR hw4
          clear x0
          go_wp2
          rw [HW4.out]
          go_roundw
          case rel => exact ⟨2, by omega, by omega, rfl, _, HSP.out, fr_put3 (HF.out.then_ HF4.out) (by rw [HN0.out]; exact hat) _ _ _ _ _ _⟩
          case measure => simp [intOf]
        · have hkm : ¬ ((1 : Int) < (m : Int)) := by omega
          go_wp2_with fail
          refine (made_any 3 wr).mono ?_
          rintro e w3 ⟨s, he, hF3, hT3⟩
          unfold Slot.v at he
          subst he
          obtain ⟨pA, hpA⟩ : ∃ x, Slot.pa s = x := ⟨_, rfl⟩
          obtain ⟨pB, hpB⟩ : ∃ x, Slot.pb s = x := ⟨_, rfl⟩
          obtain ⟨pR, hpR⟩ : ∃ x, Slot.pr s = x := ⟨_, rfl⟩
          rw [hpA, hpB, hpR]
          obtain ⟨w4, hw4⟩ : ∃ x, w3.alloc (.cells #[.pointer pA, .pointer pB, .pointer pR] 44 (0, 0)) = x := ⟨_, rfl⟩
          have HF4 := Lib.hid (show Fr No wr w4 by rw [← hw4]; exact hF3.alloc _)
          have HSP := Lib.hid (HS.out.laid (by rw [← HN0.out]; exact HF.out.size) HF4.out (fun x hx => ⟨(hT3 x hx).1.fr (show Fr No w3 w4 by rw [← hw4]; exact (Fr.refl _ _).alloc _) (fun _ _ q => q), (hT3 x hx).2⟩) 1 (by omega))
          obtain ⟨c0, c1, c2, hLF⟩ := (HS.out.fr HF4.out).cells 1 (by omega)
          rw [hpA, hpB, hpR] at HSP
          have hat := HS.out.at_
          rw [← hw4] at hLF c0 c1 c2
          have HW4 := Lib.hid hw4
          clear hF3 hT3 hpA hpB hpR hw4
          go_wp2
          rw [HW4.out]
          go_roundw
          case rel => exact ⟨2, by omega, by omega, rfl, _, HSP.out, fr_put3 (HF.out.then_ HF4.out) (by rw [HN0.out]; exact hat) _ _ _ _ _ _⟩
          case measure => simp [intOf]
      · clear hk0 hk hlt
        by_cases hkl : 2 < m
        · obtain ⟨v, hv⟩ : ∃ v, l[2]? = some v := ⟨_, List.getElem?_eq_getElem (by rw [HM.out]; exact hkl)⟩
          obtain ⟨ad, rfl, x0⟩ := (HA.out.fr HF.out) 2 v hv
          rw [add_pos ad 1] at x0
          have hkm : ((2 : Int) < (m : Int)) := by omega
          clear hv
          go_wp2_with fail
          refine (made_any v wr).mono ?_
          rintro e w3 ⟨s, he, hF3, hT3⟩
          unfold Slot.v at he
          subst he
          obtain ⟨pA, hpA⟩ : ∃ x, Slot.pa s = x := ⟨_, rfl⟩
          obtain ⟨pB, hpB⟩ : ∃ x, Slot.pb s = x := ⟨_, rfl⟩
          obtain ⟨pR, hpR⟩ : ∃ x, Slot.pr s = x := ⟨_, rfl⟩
          rw [hpA, hpB, hpR]
          obtain ⟨w4, hw4⟩ : ∃ x, w3.alloc (.cells #[.pointer pA, .pointer pB, .pointer pR] 44 (0, 0)) = x := ⟨_, rfl⟩
          have HF4 := Lib.hid (show Fr No wr w4 by rw [← hw4]; exact hF3.alloc _)
          have HSP := Lib.hid (HS.out.laid (by rw [← HN0.out]; exact HF.out.size) HF4.out (fun x hx => ⟨(hT3 x hx).1.fr (show Fr No w3 w4 by rw [← hw4]; exact (Fr.refl _ _).alloc _) (fun _ _ q => q), (hT3 x hx).2⟩) 2 (by omega))
          obtain ⟨c0, c1, c2, hLF⟩ := (HS.out.fr HF4.out).cells 2 (by omega)
          rw [hpA, hpB, hpR] at HSP
          have hat := HS.out.at_
          rw [← hw4] at hLF c0 c1 c2
          have HW4 := Lib.hid hw4
          clear hF3 hT3 hpA hpB hpR hw4
          clear x0
          go_wp2
          rw [HW4.out]
          go_roundw
          case rel => exact ⟨3, by omega, by omega, rfl, _, HSP.out, fr_put3 (HF.out.then_ HF4.out) (by rw [HN0.out]; exact hat) _ _ _ _ _ _⟩
          case measure => simp [intOf]
        · have hkm : ¬ ((2 : Int) < (m : Int)) := by omega
          go_wp2_with fail
          refine (made_any 3 wr).mono ?_
          rintro e w3 ⟨s, he, hF3, hT3⟩
          unfold Slot.v at he
          subst he
          obtain ⟨pA, hpA⟩ : ∃ x, Slot.pa s = x := ⟨_, rfl⟩
          obtain ⟨pB, hpB⟩ : ∃ x, Slot.pb s = x := ⟨_, rfl⟩
          obtain ⟨pR, hpR⟩ : ∃ x, Slot.pr s = x := ⟨_, rfl⟩
          rw [hpA, hpB, hpR]
          obtain ⟨w4, hw4⟩ : ∃ x, w3.alloc (.cells #[.pointer pA, .pointer pB, .pointer pR] 44 (0, 0)) = x := ⟨_, rfl⟩
          have HF4 := Lib.hid (show Fr No wr w4 by rw [← hw4]; exact hF3.alloc _)
          have HSP := Lib.hid (HS.out.laid (by rw [← HN0.out]; exact HF.out.size) HF4.out (fun x hx => ⟨(hT3 x hx).1.fr (show Fr No w3 w4 by rw [← hw4]; exact (Fr.refl _ _).alloc _) (fun _ _ q => q), (hT3 x hx).2⟩) 2 (by omega))
          obtain ⟨c0, c1, c2, hLF⟩ := (HS.out.fr HF4.out).cells 2 (by omega)
          rw [hpA, hpB, hpR] at HSP
          have hat := HS.out.at_
          rw [← hw4] at hLF c0 c1 c2
          have HW4 := Lib.hid hw4
          clear hF3 hT3 hpA hpB hpR hw4
          go_wp2
          rw [HW4.out]
          go_roundw
          case rel => exact ⟨3, by omega, by omega, rfl, _, HSP.out, fr_put3 (HF.out.then_ HF4.out) (by rw [HN0.out]; exact hat) _ _ _ _ _ _⟩
          case measure => simp [intOf]
    · obtain rfl : k = 3 := by omega
      clear hk0 hk hlt HA
      have HS0 := HS
      have HF0 := HF
      clear HS HF
      go_wp2
      go_loopw [11] (fun iv wr => ∃ i : Nat, i ≤ q ∧ iv = .int .i64 (i : Int) ∧ Hid (∃ f, Sys n0 L wr f ∧ Fr No w wr)) (fun iv _ => q - (intOf iv).toNat)
      case atStart => exact ⟨0, Nat.zero_le _, rfl, _, HS0.out, HF0.out⟩
      case round =>
        clear HS0 HF0
        obtain ⟨i, hi, rfl, HSx⟩ := hrel
        obtain ⟨f, hS, hF⟩ := HSx.out
        have HS := Lib.hid hS
        have HF := Lib.hid hF
        clear hS hF HSx
        by_cases hlt : i < q
        · obtain ⟨o, ho⟩ : ∃ o, xs[i]? = some o := ⟨_, List.getElem?_eq_getElem (by rw [HQ.out]; exact hlt)⟩
          obtain ⟨ad, rfl, x0, x1, x2, x3⟩ := (HX.out.fr HF.out) i o ho
          obtain ⟨wf1, wf2, wf3⟩ := HW.out o (List.mem_of_getElem? ho)
          obtain ⟨knd, on, who, v⟩ := o
          dsimp only at x0 x1 x2 x3 wf1 wf2 wf3
          have hiq : (i : Int) < (q : Int) := by omega
          have hi1 : IntKind.i64.wrap ((i : Int) + 1) = (i : Int) + 1 := IntWalk.i64_in _ (by omega)
          obtain ⟨k, hk, hpk⟩ := pickN_lt on 3 (by omega)
          obtain ⟨j, hj, hpj⟩ := pickN_lt v 3 (by omega)
          have HPK := Lib.hid (fun W => pick_is on 3 wf1 (by omega) (by omega) W)
          have HPJ := Lib.hid (fun W => pick_is v 3 wf3 (by omega) (by omega) W)
          have hpk' : pickN on 3 = ((k : Nat) : Int) := hpk
          have hpj' : pickN v 3 = ((j : Nat) : Int) := hpj
          rw [hpk'] at HPK
          rw [hpj'] at HPJ
          obtain ⟨B, hB⟩ : ∃ B, wr.heap.size = B := ⟨_, rfl⟩
          obtain ⟨w4, hw4⟩ : ∃ x, wr.alloc (.cells #[.int .i64 knd, .int .i64 on, .int .i64 who, .int .i64 v] 49 (0, 0)) = x := ⟨_, rfl⟩
          have hF4 : Fr No wr w4 := by rw [← hw4]; exact (Fr.refl _ _).alloc _
          have HO := Lib.hid (show Bk w4 B 49 [.int .i64 knd, .int .i64 on, .int .i64 who, .int .i64 v] by rw [← hw4, ← hB]; exact Bk.new wr 49 _)
          have HS4 := Lib.hid (HS.out.fr hF4)
          have HF4 := Lib.hid (HF.out.then_ hF4)
          have HW4 := Lib.hid hw4
          have HB := Lib.hid hB
          have HWF := Lib.hid (And.intro wf2 wf3)
          clear hpk hpj hpk' hpj' ho hF4 hw4 hB HS HF wf1 wf2 wf3
          have hwq : i + 1 ≤ q := hlt
          have hLB : L < B := by have := HS4.out.blk.lt; rw [← HW4.out] at this; simp at this; have hne : L ≠ B := fun e => by have := HS4.out.blk.bt.ne HO.out.bt (by decide); exact this e
                                 rw [HB.out] at this; omega
          obtain rfl | rfl | rfl : k = 0 ∨ k = 1 ∨ k = 2 := by omega
          · clear hk
            rw [show (((0 : Nat) : Int)) = 0 from rfl] at HPK
            go_upto_region 17 with (fail)
            rw [HW4.out, HB.out]
            clear x0 x1 x2 x3
            obtain ⟨o0, o1, o2, o3, of_⟩ := HO.out.four
            go_wp2_with fail
            refine (HPK.out w4).mono ?_
            rintro e w5 ⟨rfl, hw5⟩
            rw [hw5]
            clear hw5
            by_cases k9 : knd = 9
            · subst k9
              go_wp2_with fail
              refine (made_any v w4).mono ?_
              rintro e w3 ⟨s, he, hF3, hT3⟩
              have HS := HS4
              have HF := HF4
              clear o0 o1 o2 o3 of_
              unfold Slot.v at he
              subst he
              obtain ⟨pA, hpA⟩ : ∃ x, Slot.pa s = x := ⟨_, rfl⟩
              obtain ⟨pB, hpB⟩ : ∃ x, Slot.pb s = x := ⟨_, rfl⟩
              obtain ⟨pR, hpR⟩ : ∃ x, Slot.pr s = x := ⟨_, rfl⟩
              rw [hpA, hpB, hpR]
              obtain ⟨w6, hw6⟩ : ∃ x, w3.alloc (.cells #[.pointer pA, .pointer pB, .pointer pR] 44 (0, 0)) = x := ⟨_, rfl⟩
              have HF6 := Lib.hid (show Fr No w4 w6 by rw [← hw6]; exact hF3.alloc _)
              have HSP := Lib.hid (HS.out.laid (by rw [← HN0.out]; exact HF.out.size) HF6.out (fun x hx => ⟨(hT3 x hx).1.fr (show Fr No w3 w6 by rw [← hw6]; exact (Fr.refl _ _).alloc _) (fun _ _ q => q), (hT3 x hx).2⟩) 0 (by omega))
              obtain ⟨c0, c1, c2, hLF⟩ := (HS.out.fr HF6.out).cells 0 (by omega)
              rw [hpA, hpB, hpR] at HSP
              have hat := HS.out.at_
              rw [← hw6] at hLF c0 c1 c2
              have HW6 := Lib.hid hw6
              clear hF3 hT3 hpA hpB hpR hw6

              go_wp2
              rw [HW6.out]
              go_roundw
              case rel => exact ⟨i + 1, hwq, by go_num, _, HSP.out, fr_put3 (HF.out.then_ HF6.out) (by rw [HN0.out]; exact hat) _ _ _ _ _ _⟩
              case measure => simp [intOf]; omega
            · have d9 : (knd == 9) = false := by rw [beq_eq_false_iff_ne]; exact k9
              obtain ⟨c0, c1, c2, hLF⟩ := HS4.out.cells 0 (by omega)
              rcases hfk : f 0 with _ | x
              · rw [hfk] at c0 c1 c2
                clear hfk k9
                go_wp2
                go_roundw
                case rel => exact ⟨i + 1, hwq, by go_num, _, HS4.out, HF4.out⟩
                case measure => simp [intOf]; omega
              · rw [hfk] at c0 c1 c2
                have HFK := Lib.hid hfk
                have HK9 := Lib.hid k9
                clear hfk k9
                obtain ⟨⟨ta, tb, tr, ts, tp⟩, n, said, spoke⟩ := x
                simp only [Slot.pa, Slot.pb, Slot.pr, Option.map_some] at c0 c1 c2
                by_cases k7 : knd = 7
                · subst k7
                  clear HWF d9
                  have HTK := Lib.hid ((HS4.out.th 0 _ HFK.out).1)
                  have HCE := Lib.hid (fun W (hW : Fr No w4 W) => show W.cell? ⟨L, 0, none⟩ = some (.pointer (some ⟨ta, 0, none⟩)) ∧ W.cell? ⟨L, 1, none⟩ = some (.pointer (some ⟨tb, 0, none⟩)) ∧ W.cell? ⟨L, 2, none⟩ = some (.pointer (some ⟨tr, 0, none⟩)) by
                    obtain ⟨c0, c1, c2, _⟩ := (HS4.out.fr hW).cells 0 (by omega)
                    rw [HFK.out] at c0 c1 c2
                    exact ⟨c0, c1, c2⟩)
                  dsimp only at HTK
                  go_upto_region 25 with (fail)
                  obtain rfl | rfl | rfl : j = 0 ∨ j = 1 ∨ j = 2 := by omega
                  · clear hj
                    rw [show (((0 : Nat) : Int)) = 0 from rfl] at HPJ
                    clear o0 o1 o2 o3 of_ hLF
                    have hd : Fr No w4 w4.drew := (Fr.refl _ _).drew
                    have HD := Lib.hid hd
                    refine wp_region_last (S := fun W => Fr No w4 W) (last := 20) (by kernel_rfl) ?_
                    clear hd c0 c1 c2
                    refine wpAnyD_take (i := 0) (v := .pointer (some ⟨B, 3, none⟩)) (some 77) rfl rfl (by kernel_rfl) (by kernel_rfl) (by kernel_rfl) [20] (by kernel_rfl) (by kernel_rfl) (fun _ _ _ h => h) (Or.inl ⟨by rfl, fun W hW => ?_⟩) HD.out ?_
                    · obtain ⟨o0, o1, o2, o3, of_⟩ := (HO.out.fr hW id).four
                      obtain ⟨c0, c1, c2⟩ := HCE.out W hW
                      go_simp
                    try simp only [Act.put, List.setIfInBounds_toArray, List.set_cons_zero, List.set_cons_succ]
                    refine wpAnyD_take (i := 1) (v := .int .i64 v) (some 78) rfl rfl (by kernel_rfl) (by kernel_rfl) (by kernel_rfl) [20] (by kernel_rfl) (by kernel_rfl) (fun _ _ _ h => h) (Or.inl ⟨by rfl, fun W hW => ?_⟩) HD.out ?_
                    · obtain ⟨o0, o1, o2, o3, of_⟩ := (HO.out.fr hW id).four
                      obtain ⟨c0, c1, c2⟩ := HCE.out W hW
                      go_simp
                    try simp only [Act.put, List.setIfInBounds_toArray, List.set_cons_zero, List.set_cons_succ]
                    refine wpAnyD_take (i := 3) (v := .int .i64 0) (some 80) rfl rfl (by kernel_rfl) (by kernel_rfl) (by kernel_rfl) [20] (by kernel_rfl) (by kernel_rfl) (fun _ _ _ h => h) (Or.inl ⟨by rfl, fun W hW => ?_⟩) HD.out ?_
                    · obtain ⟨o0, o1, o2, o3, of_⟩ := (HO.out.fr hW id).four
                      obtain ⟨c0, c1, c2⟩ := HCE.out W hW
                      go_simp
                    try simp only [Act.put, List.setIfInBounds_toArray, List.set_cons_zero, List.set_cons_succ]
                    refine wpAnyD_take (i := 4) (v := .pointer (some ⟨L, 0, none⟩)) (some 81) rfl rfl (by kernel_rfl) (by kernel_rfl) (by kernel_rfl) [20] (by kernel_rfl) (by kernel_rfl) (fun _ _ _ h => h) (Or.inl ⟨by rfl, fun W hW => ?_⟩) HD.out ?_
                    · obtain ⟨o0, o1, o2, o3, of_⟩ := (HO.out.fr hW id).four
                      obtain ⟨c0, c1, c2⟩ := HCE.out W hW
                      go_simp
                    try simp only [Act.put, List.setIfInBounds_toArray, List.set_cons_zero, List.set_cons_succ]
                    refine wpAnyD_take (i := 5) (v := .pointer (some ⟨L, 0, none⟩)) (some 82) rfl rfl (by kernel_rfl) (by kernel_rfl) (by kernel_rfl) [20] (by kernel_rfl) (by kernel_rfl) (fun _ _ _ h => h) (Or.inl ⟨by rfl, fun W hW => ?_⟩) HD.out ?_
                    · obtain ⟨o0, o1, o2, o3, of_⟩ := (HO.out.fr hW id).four
                      obtain ⟨c0, c1, c2⟩ := HCE.out W hW
                      go_simp
                    try simp only [Act.put, List.setIfInBounds_toArray, List.set_cons_zero, List.set_cons_succ]
                    refine wpAnyD_take (i := 6) (v := .pointer (some ⟨ta, 0, none⟩)) (some 83) rfl rfl (by kernel_rfl) (by kernel_rfl) (by kernel_rfl) [20] (by kernel_rfl) (by kernel_rfl) (fun _ _ _ h => h) (Or.inl ⟨by rfl, fun W hW => ?_⟩) HD.out ?_
                    · obtain ⟨o0, o1, o2, o3, of_⟩ := (HO.out.fr hW id).four
                      obtain ⟨c0, c1, c2⟩ := HCE.out W hW
                      go_simp
                    try simp only [Act.put, List.setIfInBounds_toArray, List.set_cons_zero, List.set_cons_succ]
                    refine wpAnyD_take (i := 8) (v := .int .i64 0) (some 85) rfl rfl (by kernel_rfl) (by kernel_rfl) (by kernel_rfl) [20] (by kernel_rfl) (by kernel_rfl) (fun _ _ _ h => h) (Or.inl ⟨by rfl, fun W hW => ?_⟩) HD.out ?_
                    · obtain ⟨o0, o1, o2, o3, of_⟩ := (HO.out.fr hW id).four
                      obtain ⟨c0, c1, c2⟩ := HCE.out W hW
                      go_simp
                    try simp only [Act.put, List.setIfInBounds_toArray, List.set_cons_zero, List.set_cons_succ]
                    refine wpAnyD_take (i := 9) (v := .pointer (some ⟨L, 0, none⟩)) (some 86) rfl rfl (by kernel_rfl) (by kernel_rfl) (by kernel_rfl) [20] (by kernel_rfl) (by kernel_rfl) (fun _ _ _ h => h) (Or.inl ⟨by rfl, fun W hW => ?_⟩) HD.out ?_
                    · obtain ⟨o0, o1, o2, o3, of_⟩ := (HO.out.fr hW id).four
                      obtain ⟨c0, c1, c2⟩ := HCE.out W hW
                      go_simp
                    try simp only [Act.put, List.setIfInBounds_toArray, List.set_cons_zero, List.set_cons_succ]
                    refine wpAnyD_take (i := 10) (v := .pointer (some ⟨L, 1, none⟩)) (some 87) rfl rfl (by kernel_rfl) (by kernel_rfl) (by kernel_rfl) [20] (by kernel_rfl) (by kernel_rfl) (fun _ _ _ h => h) (Or.inl ⟨by rfl, fun W hW => ?_⟩) HD.out ?_
                    · obtain ⟨o0, o1, o2, o3, of_⟩ := (HO.out.fr hW id).four
                      obtain ⟨c0, c1, c2⟩ := HCE.out W hW
                      go_simp
                    try simp only [Act.put, List.setIfInBounds_toArray, List.set_cons_zero, List.set_cons_succ]
                    refine wpAnyD_take (i := 11) (v := .pointer (some ⟨tb, 0, none⟩)) (some 88) rfl rfl (by kernel_rfl) (by kernel_rfl) (by kernel_rfl) [20] (by kernel_rfl) (by kernel_rfl) (fun _ _ _ h => h) (Or.inl ⟨by rfl, fun W hW => ?_⟩) HD.out ?_
                    · obtain ⟨o0, o1, o2, o3, of_⟩ := (HO.out.fr hW id).four
                      obtain ⟨c0, c1, c2⟩ := HCE.out W hW
                      go_simp
                    try simp only [Act.put, List.setIfInBounds_toArray, List.set_cons_zero, List.set_cons_succ]
                    refine wpAnyD_take (i := 13) (v := .int .i64 0) (some 90) rfl rfl (by kernel_rfl) (by kernel_rfl) (by kernel_rfl) [20] (by kernel_rfl) (by kernel_rfl) (fun _ _ _ h => h) (Or.inl ⟨by rfl, fun W hW => ?_⟩) HD.out ?_
                    · obtain ⟨o0, o1, o2, o3, of_⟩ := (HO.out.fr hW id).four
                      obtain ⟨c0, c1, c2⟩ := HCE.out W hW
                      go_simp
                    try simp only [Act.put, List.setIfInBounds_toArray, List.set_cons_zero, List.set_cons_succ]
                    refine wpAnyD_take (i := 14) (v := .pointer (some ⟨L, 0, none⟩)) (some 91) rfl rfl (by kernel_rfl) (by kernel_rfl) (by kernel_rfl) [20] (by kernel_rfl) (by kernel_rfl) (fun _ _ _ h => h) (Or.inl ⟨by rfl, fun W hW => ?_⟩) HD.out ?_
                    · obtain ⟨o0, o1, o2, o3, of_⟩ := (HO.out.fr hW id).four
                      obtain ⟨c0, c1, c2⟩ := HCE.out W hW
                      go_simp
                    try simp only [Act.put, List.setIfInBounds_toArray, List.set_cons_zero, List.set_cons_succ]
                    refine wpAnyD_take (i := 15) (v := .pointer (some ⟨L, 2, none⟩)) (some 92) rfl rfl (by kernel_rfl) (by kernel_rfl) (by kernel_rfl) [20] (by kernel_rfl) (by kernel_rfl) (fun _ _ _ h => h) (Or.inl ⟨by rfl, fun W hW => ?_⟩) HD.out ?_
                    · obtain ⟨o0, o1, o2, o3, of_⟩ := (HO.out.fr hW id).four
                      obtain ⟨c0, c1, c2⟩ := HCE.out W hW
                      go_simp
                    try simp only [Act.put, List.setIfInBounds_toArray, List.set_cons_zero, List.set_cons_succ]
                    refine wpAnyD_take (i := 16) (v := .pointer (some ⟨tr, 0, none⟩)) (some 93) rfl rfl (by kernel_rfl) (by kernel_rfl) (by kernel_rfl) [20] (by kernel_rfl) (by kernel_rfl) (fun _ _ _ h => h) (Or.inl ⟨by rfl, fun W hW => ?_⟩) HD.out ?_
                    · obtain ⟨o0, o1, o2, o3, of_⟩ := (HO.out.fr hW id).four
                      obtain ⟨c0, c1, c2⟩ := HCE.out W hW
                      go_simp
                    try simp only [Act.put, List.setIfInBounds_toArray, List.set_cons_zero, List.set_cons_succ]
                    refine wpAnyD_one (i := 2) (by kernel_rfl) rfl (fun KK hKK => ?_)
                    rw [if_pos (by rfl)]
                    go_simp
                    go_at_call 15
                    refine (HPJ.out _).mono ?_
                    rintro e w5 ⟨rfl, hw5⟩
                    have hF5 : Fr No w4 w5 := by rw [hw5]; exact HD.out
                    clear hw5
                    refine hKK.out _ _ (fun _ => hF5) (fun _ => ?_)
                    clear hKK KK
                    try simp only [Act.put, List.setIfInBounds_toArray, List.set_cons_zero, List.set_cons_succ]
                    refine wpAnyD_one (i := 7) (by kernel_rfl) rfl (fun KK hKK => ?_)
                    rw [if_pos (by rfl)]
                    go_simp
                    go_at_call 16
                    refine (VtI.clone_ ta n (s7 id 0 said spoke) w5 (HTK.out.a.fr hF5 id)).mono ?_
                    rintro e w6 ⟨rfl, hC6, hG6⟩
                    have hF6 : Fr No w4 w6 := hF5.then_ hG6
                    refine hKK.out _ _ (fun _ => hF6) (fun _ => ?_)
                    clear hKK KK
                    try simp only [Act.put, List.setIfInBounds_toArray, List.set_cons_zero, List.set_cons_succ]
                    refine wpAnyD_one (i := 12) (by kernel_rfl) rfl (fun KK hKK => ?_)
                    rw [if_pos (by rfl)]
                    go_simp
                    go_at_call 17
                    refine (VtS.clone_ tb n (s7 textV ByteArray.empty said spoke) w6 (HTK.out.b.fr hF6 id)).mono ?_
                    rintro e w7 ⟨rfl, hC7, hG7⟩
                    have hF7 : Fr No w4 w7 := hF6.then_ hG7
                    refine hKK.out _ _ (fun _ => hF7) (fun _ => ?_)
                    clear hKK KK
                    try simp only [Act.put, List.setIfInBounds_toArray, List.set_cons_zero, List.set_cons_succ]
                    refine wpAnyD_one (i := 17) (by kernel_rfl) rfl (fun KK hKK => ?_)
                    rw [if_pos (by rfl)]
                    go_simp
                    go_at_call 18
                    refine (rClone_ (HTK.out.r.fr hF7 id id id) HTK.out.lo HTK.out.hi).mono ?_
                    rintro e w8 ⟨r2, s2, p2, rfl, hR8, hr2, hs2, hp2, hG8⟩
                    have hF8 : Fr No w4 w8 := hF7.then_ hG8
                    refine hKK.out _ _ (fun _ => hF8) (fun _ => ?_)
                    clear hKK KK
                    try simp only [Act.put, List.setIfInBounds_toArray, List.set_cons_zero, List.set_cons_succ]
                    obtain ⟨ga, hga⟩ : ∃ x, w5.heap.size = x := ⟨_, rfl⟩
                    obtain ⟨gb, hgb⟩ : ∃ x, w6.heap.size = x := ⟨_, rfl⟩
                    rw [hga, hgb]
                    rw [hga] at hC6
                    rw [hgb] at hC7
                    refine wpAnyD_take (i := 18) (v := .agg #[.pointer (some ⟨ga, 0, none⟩), .pointer (some ⟨gb, 0, none⟩), .pointer (some ⟨r2, 0, none⟩)]) (some 95) rfl rfl (by kernel_rfl) (by kernel_rfl) (by kernel_rfl) [20] (by kernel_rfl) (by kernel_rfl) (fun _ _ _ h => h) (Or.inl ⟨by rfl, fun W hW => ?_⟩) hF8 ?_
                    · obtain ⟨o0, o1, o2, o3, of_⟩ := (HO.out.fr hW id).four
                      obtain ⟨c0, c1, c2⟩ := HCE.out W hW
                      go_simp
                    try simp only [Act.put, List.setIfInBounds_toArray, List.set_cons_zero, List.set_cons_succ]
                    refine wpAnyD_take (i := 19) (v := .pointer (some ⟨L, 0, none⟩)) (some 96) rfl rfl (by kernel_rfl) (by kernel_rfl) (by kernel_rfl) [20] (by kernel_rfl) (by kernel_rfl) (fun _ _ _ h => h) (Or.inl ⟨by rfl, fun W hW => ?_⟩) hF8 ?_
                    · obtain ⟨o0, o1, o2, o3, of_⟩ := (HO.out.fr hW id).four
                      obtain ⟨c0, c1, c2⟩ := HCE.out W hW
                      go_simp
                    try simp only [Act.put, List.setIfInBounds_toArray, List.set_cons_zero, List.set_cons_succ]
                    have HTN := Lib.hid (show Th w8 ⟨ga, gb, r2, s2, p2⟩ n said spoke from ⟨(hC6.fr hG7 id).fr hG8 id, hC7.fr hG8 id, hR8, HTK.out.lo, HTK.out.hi⟩)
                    have hz5 := hF5.size
                    have hz6 := hF6.size
                    have hz7 := hF7.size
                    have hw4z : n0 ≤ w4.heap.size := by rw [← HN0.out]; exact HF4.out.size
                    have HSP := Lib.hid (HS4.out.laid (s := some ⟨⟨ga, gb, r2, s2, p2⟩, n, said, spoke⟩) hw4z hF8 (fun x hx => by cases hx; exact ⟨HTN.out, fun r hr => by rcases hr with rfl | rfl | rfl | rfl | rfl <;> omega⟩) 0 (by omega))
                    simp only [Slot.pa, Slot.pb, Slot.pr, Option.map_some] at HSP
                    have HF8 := Lib.hid hF8
                    obtain ⟨e0, e1, e2, eF⟩ := (HS4.out.fr hF8).cells 0 (by omega)
                    clear hF5 hF6 hF7 hF8 hC6 hC7 hG6 hG7 hG8 hR8 hz5 hz6 hz7 hga hgb
                    refine wpAnyD_one (i := 20) (by kernel_rfl) rfl (fun KK hKK => ?_)
                    rw [if_pos (by rfl)]
                    go_simp
                    refine hKK.out _ _ (fun h => absurd rfl h) (fun _ => ?_)
                    clear hKK KK
                    try simp only [Act.put, List.setIfInBounds_toArray, List.set_cons_zero, List.set_cons_succ]
                    refine wpAnyD_done (by kernel_rfl) ?_ _
                    clear e0 e1 e2 eF
                    obtain ⟨w9, hw9⟩ : ∃ x, ((w8.setCell ⟨L, 0, none⟩ (.pointer (some ⟨ga, 0, none⟩))).setCell ⟨L, 1, none⟩ (.pointer (some ⟨gb, 0, none⟩))).setCell ⟨L, 2, none⟩ (.pointer (some ⟨r2, 0, none⟩)) = x := ⟨_, rfl⟩
                    have HSP9 := Lib.hid (show Sys n0 L w9 (upd f 0 (some ⟨⟨ga, gb, r2, s2, p2⟩, n, said, spoke⟩)) by rw [← hw9]; exact HSP.out)
                    have hat := HS4.out.at_
                    have HF9 := Lib.hid (show Fr No w w9 by rw [← hw9]; exact fr_put3 (HF4.out.then_ HF8.out) (by rw [HN0.out]; exact hat) _ _ _ _ _ _)
                    have HO9 := Lib.hid (show Bk w9 B 49 [.int .i64 7, .int .i64 on, .int .i64 who, .int .i64 v] by rw [← hw9]; exact (((HO.out.fr HF8.out id).far (p := ⟨L, 0, none⟩) (by simp only; omega) _).far (p := ⟨L, 1, none⟩) (by simp only; omega) _).far (p := ⟨L, 2, none⟩) (by simp only; omega) _)
                    rw [hw9]
                    obtain ⟨c0, c1, c2, cF⟩ := HSP9.out.cells 0 (by omega)
                    rw [upd_same] at c0 c1 c2
                    simp only [Slot.pa, Slot.pb, Slot.pr, Option.map_some] at c0 c1 c2
                    obtain ⟨o0, o1, o2, o3, of_⟩ := HO9.out.four
                    clear hw9 HSP
                    go_wp2_with fail
                    refine (HPJ.out _).mono ?_
                    rintro e wp ⟨rfl, hwp⟩
                    rw [hwp]
                    clear hwp
                    go_wp2_with fail
                    refine (HPJ.out _).mono ?_
                    rintro e wp ⟨rfl, hwp⟩
                    rw [hwp]
                    clear hwp
                    go_wp2
                    go_roundw
                    case rel => exact ⟨i + 1, hwq, by go_num, _, HSP9.out, HF9.out⟩
                    case measure => simp [intOf]; omega
                  · clear hj
                    rw [show (((1 : Nat) : Int)) = 1 from rfl] at HPJ
                    clear o0 o1 o2 o3 of_ hLF
                    have hd : Fr No w4 w4.drew := (Fr.refl _ _).drew
                    have HD := Lib.hid hd
                    refine wp_region_last (S := fun W => Fr No w4 W) (last := 20) (by kernel_rfl) ?_
                    clear hd c0 c1 c2
                    refine wpAnyD_take (i := 0) (v := .pointer (some ⟨B, 3, none⟩)) (some 77) rfl rfl (by kernel_rfl) (by kernel_rfl) (by kernel_rfl) [20] (by kernel_rfl) (by kernel_rfl) (fun _ _ _ h => h) (Or.inl ⟨by rfl, fun W hW => ?_⟩) HD.out ?_
                    · obtain ⟨o0, o1, o2, o3, of_⟩ := (HO.out.fr hW id).four
                      obtain ⟨c0, c1, c2⟩ := HCE.out W hW
                      go_simp
                    try simp only [Act.put, List.setIfInBounds_toArray, List.set_cons_zero, List.set_cons_succ]
                    refine wpAnyD_take (i := 1) (v := .int .i64 v) (some 78) rfl rfl (by kernel_rfl) (by kernel_rfl) (by kernel_rfl) [20] (by kernel_rfl) (by kernel_rfl) (fun _ _ _ h => h) (Or.inl ⟨by rfl, fun W hW => ?_⟩) HD.out ?_
                    · obtain ⟨o0, o1, o2, o3, of_⟩ := (HO.out.fr hW id).four
                      obtain ⟨c0, c1, c2⟩ := HCE.out W hW
                      go_simp
                    try simp only [Act.put, List.setIfInBounds_toArray, List.set_cons_zero, List.set_cons_succ]
                    refine wpAnyD_take (i := 3) (v := .int .i64 0) (some 80) rfl rfl (by kernel_rfl) (by kernel_rfl) (by kernel_rfl) [20] (by kernel_rfl) (by kernel_rfl) (fun _ _ _ h => h) (Or.inl ⟨by rfl, fun W hW => ?_⟩) HD.out ?_
                    · obtain ⟨o0, o1, o2, o3, of_⟩ := (HO.out.fr hW id).four
                      obtain ⟨c0, c1, c2⟩ := HCE.out W hW
                      go_simp
                    try simp only [Act.put, List.setIfInBounds_toArray, List.set_cons_zero, List.set_cons_succ]
                    refine wpAnyD_take (i := 4) (v := .pointer (some ⟨L, 0, none⟩)) (some 81) rfl rfl (by kernel_rfl) (by kernel_rfl) (by kernel_rfl) [20] (by kernel_rfl) (by kernel_rfl) (fun _ _ _ h => h) (Or.inl ⟨by rfl, fun W hW => ?_⟩) HD.out ?_
                    · obtain ⟨o0, o1, o2, o3, of_⟩ := (HO.out.fr hW id).four
                      obtain ⟨c0, c1, c2⟩ := HCE.out W hW
                      go_simp
                    try simp only [Act.put, List.setIfInBounds_toArray, List.set_cons_zero, List.set_cons_succ]
                    refine wpAnyD_take (i := 5) (v := .pointer (some ⟨L, 0, none⟩)) (some 82) rfl rfl (by kernel_rfl) (by kernel_rfl) (by kernel_rfl) [20] (by kernel_rfl) (by kernel_rfl) (fun _ _ _ h => h) (Or.inl ⟨by rfl, fun W hW => ?_⟩) HD.out ?_
                    · obtain ⟨o0, o1, o2, o3, of_⟩ := (HO.out.fr hW id).four
                      obtain ⟨c0, c1, c2⟩ := HCE.out W hW
                      go_simp
                    try simp only [Act.put, List.setIfInBounds_toArray, List.set_cons_zero, List.set_cons_succ]
                    refine wpAnyD_take (i := 6) (v := .pointer (some ⟨ta, 0, none⟩)) (some 83) rfl rfl (by kernel_rfl) (by kernel_rfl) (by kernel_rfl) [20] (by kernel_rfl) (by kernel_rfl) (fun _ _ _ h => h) (Or.inl ⟨by rfl, fun W hW => ?_⟩) HD.out ?_
                    · obtain ⟨o0, o1, o2, o3, of_⟩ := (HO.out.fr hW id).four
                      obtain ⟨c0, c1, c2⟩ := HCE.out W hW
                      go_simp
                    try simp only [Act.put, List.setIfInBounds_toArray, List.set_cons_zero, List.set_cons_succ]
                    refine wpAnyD_take (i := 8) (v := .int .i64 0) (some 85) rfl rfl (by kernel_rfl) (by kernel_rfl) (by kernel_rfl) [20] (by kernel_rfl) (by kernel_rfl) (fun _ _ _ h => h) (Or.inl ⟨by rfl, fun W hW => ?_⟩) HD.out ?_
                    · obtain ⟨o0, o1, o2, o3, of_⟩ := (HO.out.fr hW id).four
                      obtain ⟨c0, c1, c2⟩ := HCE.out W hW
                      go_simp
                    try simp only [Act.put, List.setIfInBounds_toArray, List.set_cons_zero, List.set_cons_succ]
                    refine wpAnyD_take (i := 9) (v := .pointer (some ⟨L, 0, none⟩)) (some 86) rfl rfl (by kernel_rfl) (by kernel_rfl) (by kernel_rfl) [20] (by kernel_rfl) (by kernel_rfl) (fun _ _ _ h => h) (Or.inl ⟨by rfl, fun W hW => ?_⟩) HD.out ?_
                    · obtain ⟨o0, o1, o2, o3, of_⟩ := (HO.out.fr hW id).four
                      obtain ⟨c0, c1, c2⟩ := HCE.out W hW
                      go_simp
                    try simp only [Act.put, List.setIfInBounds_toArray, List.set_cons_zero, List.set_cons_succ]
                    refine wpAnyD_take (i := 10) (v := .pointer (some ⟨L, 1, none⟩)) (some 87) rfl rfl (by kernel_rfl) (by kernel_rfl) (by kernel_rfl) [20] (by kernel_rfl) (by kernel_rfl) (fun _ _ _ h => h) (Or.inl ⟨by rfl, fun W hW => ?_⟩) HD.out ?_
                    · obtain ⟨o0, o1, o2, o3, of_⟩ := (HO.out.fr hW id).four
                      obtain ⟨c0, c1, c2⟩ := HCE.out W hW
                      go_simp
                    try simp only [Act.put, List.setIfInBounds_toArray, List.set_cons_zero, List.set_cons_succ]
                    refine wpAnyD_take (i := 11) (v := .pointer (some ⟨tb, 0, none⟩)) (some 88) rfl rfl (by kernel_rfl) (by kernel_rfl) (by kernel_rfl) [20] (by kernel_rfl) (by kernel_rfl) (fun _ _ _ h => h) (Or.inl ⟨by rfl, fun W hW => ?_⟩) HD.out ?_
                    · obtain ⟨o0, o1, o2, o3, of_⟩ := (HO.out.fr hW id).four
                      obtain ⟨c0, c1, c2⟩ := HCE.out W hW
                      go_simp
                    try simp only [Act.put, List.setIfInBounds_toArray, List.set_cons_zero, List.set_cons_succ]
                    refine wpAnyD_take (i := 13) (v := .int .i64 0) (some 90) rfl rfl (by kernel_rfl) (by kernel_rfl) (by kernel_rfl) [20] (by kernel_rfl) (by kernel_rfl) (fun _ _ _ h => h) (Or.inl ⟨by rfl, fun W hW => ?_⟩) HD.out ?_
                    · obtain ⟨o0, o1, o2, o3, of_⟩ := (HO.out.fr hW id).four
                      obtain ⟨c0, c1, c2⟩ := HCE.out W hW
                      go_simp
                    try simp only [Act.put, List.setIfInBounds_toArray, List.set_cons_zero, List.set_cons_succ]
                    refine wpAnyD_take (i := 14) (v := .pointer (some ⟨L, 0, none⟩)) (some 91) rfl rfl (by kernel_rfl) (by kernel_rfl) (by kernel_rfl) [20] (by kernel_rfl) (by kernel_rfl) (fun _ _ _ h => h) (Or.inl ⟨by rfl, fun W hW => ?_⟩) HD.out ?_
                    · obtain ⟨o0, o1, o2, o3, of_⟩ := (HO.out.fr hW id).four
                      obtain ⟨c0, c1, c2⟩ := HCE.out W hW
                      go_simp
                    try simp only [Act.put, List.setIfInBounds_toArray, List.set_cons_zero, List.set_cons_succ]
                    refine wpAnyD_take (i := 15) (v := .pointer (some ⟨L, 2, none⟩)) (some 92) rfl rfl (by kernel_rfl) (by kernel_rfl) (by kernel_rfl) [20] (by kernel_rfl) (by kernel_rfl) (fun _ _ _ h => h) (Or.inl ⟨by rfl, fun W hW => ?_⟩) HD.out ?_
                    · obtain ⟨o0, o1, o2, o3, of_⟩ := (HO.out.fr hW id).four
                      obtain ⟨c0, c1, c2⟩ := HCE.out W hW
                      go_simp
                    try simp only [Act.put, List.setIfInBounds_toArray, List.set_cons_zero, List.set_cons_succ]
                    refine wpAnyD_take (i := 16) (v := .pointer (some ⟨tr, 0, none⟩)) (some 93) rfl rfl (by kernel_rfl) (by kernel_rfl) (by kernel_rfl) [20] (by kernel_rfl) (by kernel_rfl) (fun _ _ _ h => h) (Or.inl ⟨by rfl, fun W hW => ?_⟩) HD.out ?_
                    · obtain ⟨o0, o1, o2, o3, of_⟩ := (HO.out.fr hW id).four
                      obtain ⟨c0, c1, c2⟩ := HCE.out W hW
                      go_simp
                    try simp only [Act.put, List.setIfInBounds_toArray, List.set_cons_zero, List.set_cons_succ]
                    refine wpAnyD_one (i := 2) (by kernel_rfl) rfl (fun KK hKK => ?_)
                    rw [if_pos (by rfl)]
                    go_simp
                    go_at_call 15
                    refine (HPJ.out _).mono ?_
                    rintro e w5 ⟨rfl, hw5⟩
                    have hF5 : Fr No w4 w5 := by rw [hw5]; exact HD.out
                    clear hw5
                    refine hKK.out _ _ (fun _ => hF5) (fun _ => ?_)
                    clear hKK KK
                    try simp only [Act.put, List.setIfInBounds_toArray, List.set_cons_zero, List.set_cons_succ]
                    refine wpAnyD_one (i := 7) (by kernel_rfl) rfl (fun KK hKK => ?_)
                    rw [if_pos (by rfl)]
                    go_simp
                    go_at_call 16
                    refine (VtI.clone_ ta n (s7 id 0 said spoke) w5 (HTK.out.a.fr hF5 id)).mono ?_
                    rintro e w6 ⟨rfl, hC6, hG6⟩
                    have hF6 : Fr No w4 w6 := hF5.then_ hG6
                    refine hKK.out _ _ (fun _ => hF6) (fun _ => ?_)
                    clear hKK KK
                    try simp only [Act.put, List.setIfInBounds_toArray, List.set_cons_zero, List.set_cons_succ]
                    refine wpAnyD_one (i := 12) (by kernel_rfl) rfl (fun KK hKK => ?_)
                    rw [if_pos (by rfl)]
                    go_simp
                    go_at_call 17
                    refine (VtS.clone_ tb n (s7 textV ByteArray.empty said spoke) w6 (HTK.out.b.fr hF6 id)).mono ?_
                    rintro e w7 ⟨rfl, hC7, hG7⟩
                    have hF7 : Fr No w4 w7 := hF6.then_ hG7
                    refine hKK.out _ _ (fun _ => hF7) (fun _ => ?_)
                    clear hKK KK
                    try simp only [Act.put, List.setIfInBounds_toArray, List.set_cons_zero, List.set_cons_succ]
                    refine wpAnyD_one (i := 17) (by kernel_rfl) rfl (fun KK hKK => ?_)
                    rw [if_pos (by rfl)]
                    go_simp
                    go_at_call 18
                    refine (rClone_ (HTK.out.r.fr hF7 id id id) HTK.out.lo HTK.out.hi).mono ?_
                    rintro e w8 ⟨r2, s2, p2, rfl, hR8, hr2, hs2, hp2, hG8⟩
                    have hF8 : Fr No w4 w8 := hF7.then_ hG8
                    refine hKK.out _ _ (fun _ => hF8) (fun _ => ?_)
                    clear hKK KK
                    try simp only [Act.put, List.setIfInBounds_toArray, List.set_cons_zero, List.set_cons_succ]
                    obtain ⟨ga, hga⟩ : ∃ x, w5.heap.size = x := ⟨_, rfl⟩
                    obtain ⟨gb, hgb⟩ : ∃ x, w6.heap.size = x := ⟨_, rfl⟩
                    rw [hga, hgb]
                    rw [hga] at hC6
                    rw [hgb] at hC7
                    refine wpAnyD_take (i := 18) (v := .agg #[.pointer (some ⟨ga, 0, none⟩), .pointer (some ⟨gb, 0, none⟩), .pointer (some ⟨r2, 0, none⟩)]) (some 95) rfl rfl (by kernel_rfl) (by kernel_rfl) (by kernel_rfl) [20] (by kernel_rfl) (by kernel_rfl) (fun _ _ _ h => h) (Or.inl ⟨by rfl, fun W hW => ?_⟩) hF8 ?_
                    · obtain ⟨o0, o1, o2, o3, of_⟩ := (HO.out.fr hW id).four
                      obtain ⟨c0, c1, c2⟩ := HCE.out W hW
                      go_simp
                    try simp only [Act.put, List.setIfInBounds_toArray, List.set_cons_zero, List.set_cons_succ]
                    refine wpAnyD_take (i := 19) (v := .pointer (some ⟨L, 3, none⟩)) (some 96) rfl rfl (by kernel_rfl) (by kernel_rfl) (by kernel_rfl) [20] (by kernel_rfl) (by kernel_rfl) (fun _ _ _ h => h) (Or.inl ⟨by rfl, fun W hW => ?_⟩) hF8 ?_
                    · obtain ⟨o0, o1, o2, o3, of_⟩ := (HO.out.fr hW id).four
                      obtain ⟨c0, c1, c2⟩ := HCE.out W hW
                      go_simp
                    try simp only [Act.put, List.setIfInBounds_toArray, List.set_cons_zero, List.set_cons_succ]
                    have HTN := Lib.hid (show Th w8 ⟨ga, gb, r2, s2, p2⟩ n said spoke from ⟨(hC6.fr hG7 id).fr hG8 id, hC7.fr hG8 id, hR8, HTK.out.lo, HTK.out.hi⟩)
                    have hz5 := hF5.size
                    have hz6 := hF6.size
                    have hz7 := hF7.size
                    have hw4z : n0 ≤ w4.heap.size := by rw [← HN0.out]; exact HF4.out.size
                    have HSP := Lib.hid (HS4.out.laid (s := some ⟨⟨ga, gb, r2, s2, p2⟩, n, said, spoke⟩) hw4z hF8 (fun x hx => by cases hx; exact ⟨HTN.out, fun r hr => by rcases hr with rfl | rfl | rfl | rfl | rfl <;> omega⟩) 1 (by omega))
                    simp only [Slot.pa, Slot.pb, Slot.pr, Option.map_some] at HSP
                    have HF8 := Lib.hid hF8
                    obtain ⟨e0, e1, e2, eF⟩ := (HS4.out.fr hF8).cells 1 (by omega)
                    clear hF5 hF6 hF7 hF8 hC6 hC7 hG6 hG7 hG8 hR8 hz5 hz6 hz7 hga hgb
                    refine wpAnyD_one (i := 20) (by kernel_rfl) rfl (fun KK hKK => ?_)
                    rw [if_pos (by rfl)]
                    go_simp
                    refine hKK.out _ _ (fun h => absurd rfl h) (fun _ => ?_)
                    clear hKK KK
                    try simp only [Act.put, List.setIfInBounds_toArray, List.set_cons_zero, List.set_cons_succ]
                    refine wpAnyD_done (by kernel_rfl) ?_ _
                    clear e0 e1 e2 eF
                    obtain ⟨w9, hw9⟩ : ∃ x, ((w8.setCell ⟨L, 3, none⟩ (.pointer (some ⟨ga, 0, none⟩))).setCell ⟨L, 4, none⟩ (.pointer (some ⟨gb, 0, none⟩))).setCell ⟨L, 5, none⟩ (.pointer (some ⟨r2, 0, none⟩)) = x := ⟨_, rfl⟩
                    have HSP9 := Lib.hid (show Sys n0 L w9 (upd f 1 (some ⟨⟨ga, gb, r2, s2, p2⟩, n, said, spoke⟩)) by rw [← hw9]; exact HSP.out)
                    have hat := HS4.out.at_
                    have HF9 := Lib.hid (show Fr No w w9 by rw [← hw9]; exact fr_put3 (HF4.out.then_ HF8.out) (by rw [HN0.out]; exact hat) _ _ _ _ _ _)
                    have HO9 := Lib.hid (show Bk w9 B 49 [.int .i64 7, .int .i64 on, .int .i64 who, .int .i64 v] by rw [← hw9]; exact (((HO.out.fr HF8.out id).far (p := ⟨L, 3, none⟩) (by simp only; omega) _).far (p := ⟨L, 4, none⟩) (by simp only; omega) _).far (p := ⟨L, 5, none⟩) (by simp only; omega) _)
                    rw [hw9]
                    obtain ⟨c0, c1, c2, cF⟩ := HSP9.out.cells 1 (by omega)
                    rw [upd_same] at c0 c1 c2
                    simp only [Slot.pa, Slot.pb, Slot.pr, Option.map_some] at c0 c1 c2
                    obtain ⟨o0, o1, o2, o3, of_⟩ := HO9.out.four
                    clear hw9 HSP
                    go_wp2_with fail
                    refine (HPJ.out _).mono ?_
                    rintro e wp ⟨rfl, hwp⟩
                    rw [hwp]
                    clear hwp
                    go_wp2_with fail
                    refine (HPJ.out _).mono ?_
                    rintro e wp ⟨rfl, hwp⟩
                    rw [hwp]
                    clear hwp
                    go_wp2
                    go_roundw
                    case rel => exact ⟨i + 1, hwq, by go_num, _, HSP9.out, HF9.out⟩
                    case measure => simp [intOf]; omega
                  · clear hj
                    rw [show (((2 : Nat) : Int)) = 2 from rfl] at HPJ
                    clear o0 o1 o2 o3 of_ hLF
                    have hd : Fr No w4 w4.drew := (Fr.refl _ _).drew
                    have HD := Lib.hid hd
                    refine wp_region_last (S := fun W => Fr No w4 W) (last := 20) (by kernel_rfl) ?_
                    clear hd c0 c1 c2
                    refine wpAnyD_take (i := 0) (v := .pointer (some ⟨B, 3, none⟩)) (some 77) rfl rfl (by kernel_rfl) (by kernel_rfl) (by kernel_rfl) [20] (by kernel_rfl) (by kernel_rfl) (fun _ _ _ h => h) (Or.inl ⟨by rfl, fun W hW => ?_⟩) HD.out ?_
                    · obtain ⟨o0, o1, o2, o3, of_⟩ := (HO.out.fr hW id).four
                      obtain ⟨c0, c1, c2⟩ := HCE.out W hW
                      go_simp
                    try simp only [Act.put, List.setIfInBounds_toArray, List.set_cons_zero, List.set_cons_succ]
                    refine wpAnyD_take (i := 1) (v := .int .i64 v) (some 78) rfl rfl (by kernel_rfl) (by kernel_rfl) (by kernel_rfl) [20] (by kernel_rfl) (by kernel_rfl) (fun _ _ _ h => h) (Or.inl ⟨by rfl, fun W hW => ?_⟩) HD.out ?_
                    · obtain ⟨o0, o1, o2, o3, of_⟩ := (HO.out.fr hW id).four
                      obtain ⟨c0, c1, c2⟩ := HCE.out W hW
                      go_simp
                    try simp only [Act.put, List.setIfInBounds_toArray, List.set_cons_zero, List.set_cons_succ]
                    refine wpAnyD_take (i := 3) (v := .int .i64 0) (some 80) rfl rfl (by kernel_rfl) (by kernel_rfl) (by kernel_rfl) [20] (by kernel_rfl) (by kernel_rfl) (fun _ _ _ h => h) (Or.inl ⟨by rfl, fun W hW => ?_⟩) HD.out ?_
                    · obtain ⟨o0, o1, o2, o3, of_⟩ := (HO.out.fr hW id).four
                      obtain ⟨c0, c1, c2⟩ := HCE.out W hW
                      go_simp
                    try simp only [Act.put, List.setIfInBounds_toArray, List.set_cons_zero, List.set_cons_succ]
                    refine wpAnyD_take (i := 4) (v := .pointer (some ⟨L, 0, none⟩)) (some 81) rfl rfl (by kernel_rfl) (by kernel_rfl) (by kernel_rfl) [20] (by kernel_rfl) (by kernel_rfl) (fun _ _ _ h => h) (Or.inl ⟨by rfl, fun W hW => ?_⟩) HD.out ?_
                    · obtain ⟨o0, o1, o2, o3, of_⟩ := (HO.out.fr hW id).four
                      obtain ⟨c0, c1, c2⟩ := HCE.out W hW
                      go_simp
                    try simp only [Act.put, List.setIfInBounds_toArray, List.set_cons_zero, List.set_cons_succ]
                    refine wpAnyD_take (i := 5) (v := .pointer (some ⟨L, 0, none⟩)) (some 82) rfl rfl (by kernel_rfl) (by kernel_rfl) (by kernel_rfl) [20] (by kernel_rfl) (by kernel_rfl) (fun _ _ _ h => h) (Or.inl ⟨by rfl, fun W hW => ?_⟩) HD.out ?_
                    · obtain ⟨o0, o1, o2, o3, of_⟩ := (HO.out.fr hW id).four
                      obtain ⟨c0, c1, c2⟩ := HCE.out W hW
                      go_simp
                    try simp only [Act.put, List.setIfInBounds_toArray, List.set_cons_zero, List.set_cons_succ]
                    refine wpAnyD_take (i := 6) (v := .pointer (some ⟨ta, 0, none⟩)) (some 83) rfl rfl (by kernel_rfl) (by kernel_rfl) (by kernel_rfl) [20] (by kernel_rfl) (by kernel_rfl) (fun _ _ _ h => h) (Or.inl ⟨by rfl, fun W hW => ?_⟩) HD.out ?_
                    · obtain ⟨o0, o1, o2, o3, of_⟩ := (HO.out.fr hW id).four
                      obtain ⟨c0, c1, c2⟩ := HCE.out W hW
                      go_simp
                    try simp only [Act.put, List.setIfInBounds_toArray, List.set_cons_zero, List.set_cons_succ]
                    refine wpAnyD_take (i := 8) (v := .int .i64 0) (some 85) rfl rfl (by kernel_rfl) (by kernel_rfl) (by kernel_rfl) [20] (by kernel_rfl) (by kernel_rfl) (fun _ _ _ h => h) (Or.inl ⟨by rfl, fun W hW => ?_⟩) HD.out ?_
                    · obtain ⟨o0, o1, o2, o3, of_⟩ := (HO.out.fr hW id).four
                      obtain ⟨c0, c1, c2⟩ := HCE.out W hW
                      go_simp
                    try simp only [Act.put, List.setIfInBounds_toArray, List.set_cons_zero, List.set_cons_succ]
                    refine wpAnyD_take (i := 9) (v := .pointer (some ⟨L, 0, none⟩)) (some 86) rfl rfl (by kernel_rfl) (by kernel_rfl) (by kernel_rfl) [20] (by kernel_rfl) (by kernel_rfl) (fun _ _ _ h => h) (Or.inl ⟨by rfl, fun W hW => ?_⟩) HD.out ?_
                    · obtain ⟨o0, o1, o2, o3, of_⟩ := (HO.out.fr hW id).four
                      obtain ⟨c0, c1, c2⟩ := HCE.out W hW
                      go_simp
                    try simp only [Act.put, List.setIfInBounds_toArray, List.set_cons_zero, List.set_cons_succ]
                    refine wpAnyD_take (i := 10) (v := .pointer (some ⟨L, 1, none⟩)) (some 87) rfl rfl (by kernel_rfl) (by kernel_rfl) (by kernel_rfl) [20] (by kernel_rfl) (by kernel_rfl) (fun _ _ _ h => h) (Or.inl ⟨by rfl, fun W hW => ?_⟩) HD.out ?_
                    · obtain ⟨o0, o1, o2, o3, of_⟩ := (HO.out.fr hW id).four
                      obtain ⟨c0, c1, c2⟩ := HCE.out W hW
                      go_simp
                    try simp only [Act.put, List.setIfInBounds_toArray, List.set_cons_zero, List.set_cons_succ]
                    refine wpAnyD_take (i := 11) (v := .pointer (some ⟨tb, 0, none⟩)) (some 88) rfl rfl (by kernel_rfl) (by kernel_rfl) (by kernel_rfl) [20] (by kernel_rfl) (by kernel_rfl) (fun _ _ _ h => h) (Or.inl ⟨by rfl, fun W hW => ?_⟩) HD.out ?_
                    · obtain ⟨o0, o1, o2, o3, of_⟩ := (HO.out.fr hW id).four
                      obtain ⟨c0, c1, c2⟩ := HCE.out W hW
                      go_simp
                    try simp only [Act.put, List.setIfInBounds_toArray, List.set_cons_zero, List.set_cons_succ]
                    refine wpAnyD_take (i := 13) (v := .int .i64 0) (some 90) rfl rfl (by kernel_rfl) (by kernel_rfl) (by kernel_rfl) [20] (by kernel_rfl) (by kernel_rfl) (fun _ _ _ h => h) (Or.inl ⟨by rfl, fun W hW => ?_⟩) HD.out ?_
                    · obtain ⟨o0, o1, o2, o3, of_⟩ := (HO.out.fr hW id).four
                      obtain ⟨c0, c1, c2⟩ := HCE.out W hW
                      go_simp
                    try simp only [Act.put, List.setIfInBounds_toArray, List.set_cons_zero, List.set_cons_succ]
                    refine wpAnyD_take (i := 14) (v := .pointer (some ⟨L, 0, none⟩)) (some 91) rfl rfl (by kernel_rfl) (by kernel_rfl) (by kernel_rfl) [20] (by kernel_rfl) (by kernel_rfl) (fun _ _ _ h => h) (Or.inl ⟨by rfl, fun W hW => ?_⟩) HD.out ?_
                    · obtain ⟨o0, o1, o2, o3, of_⟩ := (HO.out.fr hW id).four
                      obtain ⟨c0, c1, c2⟩ := HCE.out W hW
                      go_simp
                    try simp only [Act.put, List.setIfInBounds_toArray, List.set_cons_zero, List.set_cons_succ]
                    refine wpAnyD_take (i := 15) (v := .pointer (some ⟨L, 2, none⟩)) (some 92) rfl rfl (by kernel_rfl) (by kernel_rfl) (by kernel_rfl) [20] (by kernel_rfl) (by kernel_rfl) (fun _ _ _ h => h) (Or.inl ⟨by rfl, fun W hW => ?_⟩) HD.out ?_
                    · obtain ⟨o0, o1, o2, o3, of_⟩ := (HO.out.fr hW id).four
                      obtain ⟨c0, c1, c2⟩ := HCE.out W hW
                      go_simp
                    try simp only [Act.put, List.setIfInBounds_toArray, List.set_cons_zero, List.set_cons_succ]
                    refine wpAnyD_take (i := 16) (v := .pointer (some ⟨tr, 0, none⟩)) (some 93) rfl rfl (by kernel_rfl) (by kernel_rfl) (by kernel_rfl) [20] (by kernel_rfl) (by kernel_rfl) (fun _ _ _ h => h) (Or.inl ⟨by rfl, fun W hW => ?_⟩) HD.out ?_
                    · obtain ⟨o0, o1, o2, o3, of_⟩ := (HO.out.fr hW id).four
                      obtain ⟨c0, c1, c2⟩ := HCE.out W hW
                      go_simp
                    try simp only [Act.put, List.setIfInBounds_toArray, List.set_cons_zero, List.set_cons_succ]
                    refine wpAnyD_one (i := 2) (by kernel_rfl) rfl (fun KK hKK => ?_)
                    rw [if_pos (by rfl)]
                    go_simp
                    go_at_call 15
                    refine (HPJ.out _).mono ?_
                    rintro e w5 ⟨rfl, hw5⟩
                    have hF5 : Fr No w4 w5 := by rw [hw5]; exact HD.out
                    clear hw5
                    refine hKK.out _ _ (fun _ => hF5) (fun _ => ?_)
                    clear hKK KK
                    try simp only [Act.put, List.setIfInBounds_toArray, List.set_cons_zero, List.set_cons_succ]
                    refine wpAnyD_one (i := 7) (by kernel_rfl) rfl (fun KK hKK => ?_)
                    rw [if_pos (by rfl)]
                    go_simp
                    go_at_call 16
                    refine (VtI.clone_ ta n (s7 id 0 said spoke) w5 (HTK.out.a.fr hF5 id)).mono ?_
                    rintro e w6 ⟨rfl, hC6, hG6⟩
                    have hF6 : Fr No w4 w6 := hF5.then_ hG6
                    refine hKK.out _ _ (fun _ => hF6) (fun _ => ?_)
                    clear hKK KK
                    try simp only [Act.put, List.setIfInBounds_toArray, List.set_cons_zero, List.set_cons_succ]
                    refine wpAnyD_one (i := 12) (by kernel_rfl) rfl (fun KK hKK => ?_)
                    rw [if_pos (by rfl)]
                    go_simp
                    go_at_call 17
                    refine (VtS.clone_ tb n (s7 textV ByteArray.empty said spoke) w6 (HTK.out.b.fr hF6 id)).mono ?_
                    rintro e w7 ⟨rfl, hC7, hG7⟩
                    have hF7 : Fr No w4 w7 := hF6.then_ hG7
                    refine hKK.out _ _ (fun _ => hF7) (fun _ => ?_)
                    clear hKK KK
                    try simp only [Act.put, List.setIfInBounds_toArray, List.set_cons_zero, List.set_cons_succ]
                    refine wpAnyD_one (i := 17) (by kernel_rfl) rfl (fun KK hKK => ?_)
                    rw [if_pos (by rfl)]
                    go_simp
                    go_at_call 18
                    refine (rClone_ (HTK.out.r.fr hF7 id id id) HTK.out.lo HTK.out.hi).mono ?_
                    rintro e w8 ⟨r2, s2, p2, rfl, hR8, hr2, hs2, hp2, hG8⟩
                    have hF8 : Fr No w4 w8 := hF7.then_ hG8
                    refine hKK.out _ _ (fun _ => hF8) (fun _ => ?_)
                    clear hKK KK
                    try simp only [Act.put, List.setIfInBounds_toArray, List.set_cons_zero, List.set_cons_succ]
                    obtain ⟨ga, hga⟩ : ∃ x, w5.heap.size = x := ⟨_, rfl⟩
                    obtain ⟨gb, hgb⟩ : ∃ x, w6.heap.size = x := ⟨_, rfl⟩
                    rw [hga, hgb]
                    rw [hga] at hC6
                    rw [hgb] at hC7
                    refine wpAnyD_take (i := 18) (v := .agg #[.pointer (some ⟨ga, 0, none⟩), .pointer (some ⟨gb, 0, none⟩), .pointer (some ⟨r2, 0, none⟩)]) (some 95) rfl rfl (by kernel_rfl) (by kernel_rfl) (by kernel_rfl) [20] (by kernel_rfl) (by kernel_rfl) (fun _ _ _ h => h) (Or.inl ⟨by rfl, fun W hW => ?_⟩) hF8 ?_
                    · obtain ⟨o0, o1, o2, o3, of_⟩ := (HO.out.fr hW id).four
                      obtain ⟨c0, c1, c2⟩ := HCE.out W hW
                      go_simp
                    try simp only [Act.put, List.setIfInBounds_toArray, List.set_cons_zero, List.set_cons_succ]
                    refine wpAnyD_take (i := 19) (v := .pointer (some ⟨L, 6, none⟩)) (some 96) rfl rfl (by kernel_rfl) (by kernel_rfl) (by kernel_rfl) [20] (by kernel_rfl) (by kernel_rfl) (fun _ _ _ h => h) (Or.inl ⟨by rfl, fun W hW => ?_⟩) hF8 ?_
                    · obtain ⟨o0, o1, o2, o3, of_⟩ := (HO.out.fr hW id).four
                      obtain ⟨c0, c1, c2⟩ := HCE.out W hW
                      go_simp
                    try simp only [Act.put, List.setIfInBounds_toArray, List.set_cons_zero, List.set_cons_succ]
                    have HTN := Lib.hid (show Th w8 ⟨ga, gb, r2, s2, p2⟩ n said spoke from ⟨(hC6.fr hG7 id).fr hG8 id, hC7.fr hG8 id, hR8, HTK.out.lo, HTK.out.hi⟩)
                    have hz5 := hF5.size
                    have hz6 := hF6.size
                    have hz7 := hF7.size
                    have hw4z : n0 ≤ w4.heap.size := by rw [← HN0.out]; exact HF4.out.size
                    have HSP := Lib.hid (HS4.out.laid (s := some ⟨⟨ga, gb, r2, s2, p2⟩, n, said, spoke⟩) hw4z hF8 (fun x hx => by cases hx; exact ⟨HTN.out, fun r hr => by rcases hr with rfl | rfl | rfl | rfl | rfl <;> omega⟩) 2 (by omega))
                    simp only [Slot.pa, Slot.pb, Slot.pr, Option.map_some] at HSP
                    have HF8 := Lib.hid hF8
                    obtain ⟨e0, e1, e2, eF⟩ := (HS4.out.fr hF8).cells 2 (by omega)
                    clear hF5 hF6 hF7 hF8 hC6 hC7 hG6 hG7 hG8 hR8 hz5 hz6 hz7 hga hgb
                    refine wpAnyD_one (i := 20) (by kernel_rfl) rfl (fun KK hKK => ?_)
                    rw [if_pos (by rfl)]
                    go_simp
                    refine hKK.out _ _ (fun h => absurd rfl h) (fun _ => ?_)
                    clear hKK KK
                    try simp only [Act.put, List.setIfInBounds_toArray, List.set_cons_zero, List.set_cons_succ]
                    refine wpAnyD_done (by kernel_rfl) ?_ _
                    clear e0 e1 e2 eF
                    obtain ⟨w9, hw9⟩ : ∃ x, ((w8.setCell ⟨L, 6, none⟩ (.pointer (some ⟨ga, 0, none⟩))).setCell ⟨L, 7, none⟩ (.pointer (some ⟨gb, 0, none⟩))).setCell ⟨L, 8, none⟩ (.pointer (some ⟨r2, 0, none⟩)) = x := ⟨_, rfl⟩
                    have HSP9 := Lib.hid (show Sys n0 L w9 (upd f 2 (some ⟨⟨ga, gb, r2, s2, p2⟩, n, said, spoke⟩)) by rw [← hw9]; exact HSP.out)
                    have hat := HS4.out.at_
                    have HF9 := Lib.hid (show Fr No w w9 by rw [← hw9]; exact fr_put3 (HF4.out.then_ HF8.out) (by rw [HN0.out]; exact hat) _ _ _ _ _ _)
                    have HO9 := Lib.hid (show Bk w9 B 49 [.int .i64 7, .int .i64 on, .int .i64 who, .int .i64 v] by rw [← hw9]; exact (((HO.out.fr HF8.out id).far (p := ⟨L, 6, none⟩) (by simp only; omega) _).far (p := ⟨L, 7, none⟩) (by simp only; omega) _).far (p := ⟨L, 8, none⟩) (by simp only; omega) _)
                    rw [hw9]
                    obtain ⟨c0, c1, c2, cF⟩ := HSP9.out.cells 2 (by omega)
                    rw [upd_same] at c0 c1 c2
                    simp only [Slot.pa, Slot.pb, Slot.pr, Option.map_some] at c0 c1 c2
                    obtain ⟨o0, o1, o2, o3, of_⟩ := HO9.out.four
                    clear hw9 HSP
                    go_wp2_with fail
                    refine (HPJ.out _).mono ?_
                    rintro e wp ⟨rfl, hwp⟩
                    rw [hwp]
                    clear hwp
                    go_wp2_with fail
                    refine (HPJ.out _).mono ?_
                    rintro e wp ⟨rfl, hwp⟩
                    rw [hwp]
                    clear hwp
                    go_wp2
                    go_roundw
                    case rel => exact ⟨i + 1, hwq, by go_num, _, HSP9.out, HF9.out⟩
                    case measure => simp [intOf]; omega
                · have d7 : (knd == 7) = false := by rw [beq_eq_false_iff_ne]; exact k7
                  have HSA := Lib.hid (fun W hT => step_any (w := W) (t := ⟨ta, tb, tr, ts, tp⟩) (n := n) (said := said) (spoke := spoke) hT knd on who v HWF.out.1 HWF.out.2)
                  unfold TB.v stepV at HSA
                  clear k7
                  go_upto_region 28 with (fail)
                  go_still_tail 4, (by kernel_rfl)
                  change wpList _ _ _ _ _ w4.drew
                  clear o0 o1 o2 o3 of_ c0 c1 c2 hLF d9 d7
                  have hd : Fr No w4 w4.drew := (Fr.refl _ _).drew
                  have HD := Lib.hid hd
                  clear hd
                  go_wp2_with fail
                  refine (HSA.out w4.drew ((HS4.out.fr HD.out).th 0 _ HFK.out).1).mono ?_
                  rintro e w7 ⟨rfl, ⟨sd, sp, hT7⟩, hF7⟩
                  have HSN := Lib.hid ((HS4.out.fr HD.out).step HFK.out hT7 hF7)
                  have HFN := Lib.hid ((HF4.out.then_ HD.out).trans hF7 (fun r hr hk => by have := (HS4.out.th 0 _ HFK.out).2 r hk; rw [HN0.out] at hr; omega))
                  clear hT7 hF7
                  go_wp2
                  go_roundw
                  case rel => exact ⟨i + 1, hwq, by go_num, _, HSN.out, HFN.out⟩
                  case measure => simp [intOf]; omega
          · clear hk
            rw [show (((1 : Nat) : Int)) = 1 from rfl] at HPK
            go_upto_region 17 with (fail)
            rw [HW4.out, HB.out]
            clear x0 x1 x2 x3
            obtain ⟨o0, o1, o2, o3, of_⟩ := HO.out.four
            go_wp2_with fail
            refine (HPK.out w4).mono ?_
            rintro e w5 ⟨rfl, hw5⟩
            rw [hw5]
            clear hw5
            by_cases k9 : knd = 9
            · subst k9
              go_wp2_with fail
              refine (made_any v w4).mono ?_
              rintro e w3 ⟨s, he, hF3, hT3⟩
              have HS := HS4
              have HF := HF4
              clear o0 o1 o2 o3 of_
              unfold Slot.v at he
              subst he
              obtain ⟨pA, hpA⟩ : ∃ x, Slot.pa s = x := ⟨_, rfl⟩
              obtain ⟨pB, hpB⟩ : ∃ x, Slot.pb s = x := ⟨_, rfl⟩
              obtain ⟨pR, hpR⟩ : ∃ x, Slot.pr s = x := ⟨_, rfl⟩
              rw [hpA, hpB, hpR]
              obtain ⟨w6, hw6⟩ : ∃ x, w3.alloc (.cells #[.pointer pA, .pointer pB, .pointer pR] 44 (0, 0)) = x := ⟨_, rfl⟩
              have HF6 := Lib.hid (show Fr No w4 w6 by rw [← hw6]; exact hF3.alloc _)
              have HSP := Lib.hid (HS.out.laid (by rw [← HN0.out]; exact HF.out.size) HF6.out (fun x hx => ⟨(hT3 x hx).1.fr (show Fr No w3 w6 by rw [← hw6]; exact (Fr.refl _ _).alloc _) (fun _ _ q => q), (hT3 x hx).2⟩) 1 (by omega))
              obtain ⟨c0, c1, c2, hLF⟩ := (HS.out.fr HF6.out).cells 1 (by omega)
              rw [hpA, hpB, hpR] at HSP
              have hat := HS.out.at_
              rw [← hw6] at hLF c0 c1 c2
              have HW6 := Lib.hid hw6
              clear hF3 hT3 hpA hpB hpR hw6

              go_wp2
              rw [HW6.out]
              go_roundw
              case rel => exact ⟨i + 1, hwq, by go_num, _, HSP.out, fr_put3 (HF.out.then_ HF6.out) (by rw [HN0.out]; exact hat) _ _ _ _ _ _⟩
              case measure => simp [intOf]; omega
            · have d9 : (knd == 9) = false := by rw [beq_eq_false_iff_ne]; exact k9
              obtain ⟨c0, c1, c2, hLF⟩ := HS4.out.cells 1 (by omega)
              rcases hfk : f 1 with _ | x
              · rw [hfk] at c0 c1 c2
                clear hfk k9
                go_wp2
                go_roundw
                case rel => exact ⟨i + 1, hwq, by go_num, _, HS4.out, HF4.out⟩
                case measure => simp [intOf]; omega
              · rw [hfk] at c0 c1 c2
                have HFK := Lib.hid hfk
                have HK9 := Lib.hid k9
                clear hfk k9
                obtain ⟨⟨ta, tb, tr, ts, tp⟩, n, said, spoke⟩ := x
                simp only [Slot.pa, Slot.pb, Slot.pr, Option.map_some] at c0 c1 c2
                by_cases k7 : knd = 7
                · subst k7
                  clear HWF d9
                  have HTK := Lib.hid ((HS4.out.th 1 _ HFK.out).1)
                  have HCE := Lib.hid (fun W (hW : Fr No w4 W) => show W.cell? ⟨L, 3, none⟩ = some (.pointer (some ⟨ta, 0, none⟩)) ∧ W.cell? ⟨L, 4, none⟩ = some (.pointer (some ⟨tb, 0, none⟩)) ∧ W.cell? ⟨L, 5, none⟩ = some (.pointer (some ⟨tr, 0, none⟩)) by
                    obtain ⟨c0, c1, c2, _⟩ := (HS4.out.fr hW).cells 1 (by omega)
                    rw [HFK.out] at c0 c1 c2
                    exact ⟨c0, c1, c2⟩)
                  dsimp only at HTK
                  go_upto_region 25 with (fail)
                  obtain rfl | rfl | rfl : j = 0 ∨ j = 1 ∨ j = 2 := by omega
                  · clear hj
                    rw [show (((0 : Nat) : Int)) = 0 from rfl] at HPJ
                    clear o0 o1 o2 o3 of_ hLF
                    have hd : Fr No w4 w4.drew := (Fr.refl _ _).drew
                    have HD := Lib.hid hd
                    refine wp_region_last (S := fun W => Fr No w4 W) (last := 20) (by kernel_rfl) ?_
                    clear hd c0 c1 c2
                    refine wpAnyD_take (i := 0) (v := .pointer (some ⟨B, 3, none⟩)) (some 77) rfl rfl (by kernel_rfl) (by kernel_rfl) (by kernel_rfl) [20] (by kernel_rfl) (by kernel_rfl) (fun _ _ _ h => h) (Or.inl ⟨by rfl, fun W hW => ?_⟩) HD.out ?_
                    · obtain ⟨o0, o1, o2, o3, of_⟩ := (HO.out.fr hW id).four
                      obtain ⟨c0, c1, c2⟩ := HCE.out W hW
                      go_simp
                    try simp only [Act.put, List.setIfInBounds_toArray, List.set_cons_zero, List.set_cons_succ]
                    refine wpAnyD_take (i := 1) (v := .int .i64 v) (some 78) rfl rfl (by kernel_rfl) (by kernel_rfl) (by kernel_rfl) [20] (by kernel_rfl) (by kernel_rfl) (fun _ _ _ h => h) (Or.inl ⟨by rfl, fun W hW => ?_⟩) HD.out ?_
                    · obtain ⟨o0, o1, o2, o3, of_⟩ := (HO.out.fr hW id).four
                      obtain ⟨c0, c1, c2⟩ := HCE.out W hW
                      go_simp
                    try simp only [Act.put, List.setIfInBounds_toArray, List.set_cons_zero, List.set_cons_succ]
                    refine wpAnyD_take (i := 3) (v := .int .i64 1) (some 80) rfl rfl (by kernel_rfl) (by kernel_rfl) (by kernel_rfl) [20] (by kernel_rfl) (by kernel_rfl) (fun _ _ _ h => h) (Or.inl ⟨by rfl, fun W hW => ?_⟩) HD.out ?_
                    · obtain ⟨o0, o1, o2, o3, of_⟩ := (HO.out.fr hW id).four
                      obtain ⟨c0, c1, c2⟩ := HCE.out W hW
                      go_simp
                    try simp only [Act.put, List.setIfInBounds_toArray, List.set_cons_zero, List.set_cons_succ]
                    refine wpAnyD_take (i := 4) (v := .pointer (some ⟨L, 3, none⟩)) (some 81) rfl rfl (by kernel_rfl) (by kernel_rfl) (by kernel_rfl) [20] (by kernel_rfl) (by kernel_rfl) (fun _ _ _ h => h) (Or.inl ⟨by rfl, fun W hW => ?_⟩) HD.out ?_
                    · obtain ⟨o0, o1, o2, o3, of_⟩ := (HO.out.fr hW id).four
                      obtain ⟨c0, c1, c2⟩ := HCE.out W hW
                      go_simp
                    try simp only [Act.put, List.setIfInBounds_toArray, List.set_cons_zero, List.set_cons_succ]
                    refine wpAnyD_take (i := 5) (v := .pointer (some ⟨L, 3, none⟩)) (some 82) rfl rfl (by kernel_rfl) (by kernel_rfl) (by kernel_rfl) [20] (by kernel_rfl) (by kernel_rfl) (fun _ _ _ h => h) (Or.inl ⟨by rfl, fun W hW => ?_⟩) HD.out ?_
                    · obtain ⟨o0, o1, o2, o3, of_⟩ := (HO.out.fr hW id).four
                      obtain ⟨c0, c1, c2⟩ := HCE.out W hW
                      go_simp
                    try simp only [Act.put, List.setIfInBounds_toArray, List.set_cons_zero, List.set_cons_succ]
                    refine wpAnyD_take (i := 6) (v := .pointer (some ⟨ta, 0, none⟩)) (some 83) rfl rfl (by kernel_rfl) (by kernel_rfl) (by kernel_rfl) [20] (by kernel_rfl) (by kernel_rfl) (fun _ _ _ h => h) (Or.inl ⟨by rfl, fun W hW => ?_⟩) HD.out ?_
                    · obtain ⟨o0, o1, o2, o3, of_⟩ := (HO.out.fr hW id).four
                      obtain ⟨c0, c1, c2⟩ := HCE.out W hW
                      go_simp
                    try simp only [Act.put, List.setIfInBounds_toArray, List.set_cons_zero, List.set_cons_succ]
                    refine wpAnyD_take (i := 8) (v := .int .i64 1) (some 85) rfl rfl (by kernel_rfl) (by kernel_rfl) (by kernel_rfl) [20] (by kernel_rfl) (by kernel_rfl) (fun _ _ _ h => h) (Or.inl ⟨by rfl, fun W hW => ?_⟩) HD.out ?_
                    · obtain ⟨o0, o1, o2, o3, of_⟩ := (HO.out.fr hW id).four
                      obtain ⟨c0, c1, c2⟩ := HCE.out W hW
                      go_simp
                    try simp only [Act.put, List.setIfInBounds_toArray, List.set_cons_zero, List.set_cons_succ]
                    refine wpAnyD_take (i := 9) (v := .pointer (some ⟨L, 3, none⟩)) (some 86) rfl rfl (by kernel_rfl) (by kernel_rfl) (by kernel_rfl) [20] (by kernel_rfl) (by kernel_rfl) (fun _ _ _ h => h) (Or.inl ⟨by rfl, fun W hW => ?_⟩) HD.out ?_
                    · obtain ⟨o0, o1, o2, o3, of_⟩ := (HO.out.fr hW id).four
                      obtain ⟨c0, c1, c2⟩ := HCE.out W hW
                      go_simp
                    try simp only [Act.put, List.setIfInBounds_toArray, List.set_cons_zero, List.set_cons_succ]
                    refine wpAnyD_take (i := 10) (v := .pointer (some ⟨L, 4, none⟩)) (some 87) rfl rfl (by kernel_rfl) (by kernel_rfl) (by kernel_rfl) [20] (by kernel_rfl) (by kernel_rfl) (fun _ _ _ h => h) (Or.inl ⟨by rfl, fun W hW => ?_⟩) HD.out ?_
                    · obtain ⟨o0, o1, o2, o3, of_⟩ := (HO.out.fr hW id).four
                      obtain ⟨c0, c1, c2⟩ := HCE.out W hW
                      go_simp
                    try simp only [Act.put, List.setIfInBounds_toArray, List.set_cons_zero, List.set_cons_succ]
                    refine wpAnyD_take (i := 11) (v := .pointer (some ⟨tb, 0, none⟩)) (some 88) rfl rfl (by kernel_rfl) (by kernel_rfl) (by kernel_rfl) [20] (by kernel_rfl) (by kernel_rfl) (fun _ _ _ h => h) (Or.inl ⟨by rfl, fun W hW => ?_⟩) HD.out ?_
                    · obtain ⟨o0, o1, o2, o3, of_⟩ := (HO.out.fr hW id).four
                      obtain ⟨c0, c1, c2⟩ := HCE.out W hW
                      go_simp
                    try simp only [Act.put, List.setIfInBounds_toArray, List.set_cons_zero, List.set_cons_succ]
                    refine wpAnyD_take (i := 13) (v := .int .i64 1) (some 90) rfl rfl (by kernel_rfl) (by kernel_rfl) (by kernel_rfl) [20] (by kernel_rfl) (by kernel_rfl) (fun _ _ _ h => h) (Or.inl ⟨by rfl, fun W hW => ?_⟩) HD.out ?_
                    · obtain ⟨o0, o1, o2, o3, of_⟩ := (HO.out.fr hW id).four
                      obtain ⟨c0, c1, c2⟩ := HCE.out W hW
                      go_simp
                    try simp only [Act.put, List.setIfInBounds_toArray, List.set_cons_zero, List.set_cons_succ]
                    refine wpAnyD_take (i := 14) (v := .pointer (some ⟨L, 3, none⟩)) (some 91) rfl rfl (by kernel_rfl) (by kernel_rfl) (by kernel_rfl) [20] (by kernel_rfl) (by kernel_rfl) (fun _ _ _ h => h) (Or.inl ⟨by rfl, fun W hW => ?_⟩) HD.out ?_
                    · obtain ⟨o0, o1, o2, o3, of_⟩ := (HO.out.fr hW id).four
                      obtain ⟨c0, c1, c2⟩ := HCE.out W hW
                      go_simp
                    try simp only [Act.put, List.setIfInBounds_toArray, List.set_cons_zero, List.set_cons_succ]
                    refine wpAnyD_take (i := 15) (v := .pointer (some ⟨L, 5, none⟩)) (some 92) rfl rfl (by kernel_rfl) (by kernel_rfl) (by kernel_rfl) [20] (by kernel_rfl) (by kernel_rfl) (fun _ _ _ h => h) (Or.inl ⟨by rfl, fun W hW => ?_⟩) HD.out ?_
                    · obtain ⟨o0, o1, o2, o3, of_⟩ := (HO.out.fr hW id).four
                      obtain ⟨c0, c1, c2⟩ := HCE.out W hW
                      go_simp
                    try simp only [Act.put, List.setIfInBounds_toArray, List.set_cons_zero, List.set_cons_succ]
                    refine wpAnyD_take (i := 16) (v := .pointer (some ⟨tr, 0, none⟩)) (some 93) rfl rfl (by kernel_rfl) (by kernel_rfl) (by kernel_rfl) [20] (by kernel_rfl) (by kernel_rfl) (fun _ _ _ h => h) (Or.inl ⟨by rfl, fun W hW => ?_⟩) HD.out ?_
                    · obtain ⟨o0, o1, o2, o3, of_⟩ := (HO.out.fr hW id).four
                      obtain ⟨c0, c1, c2⟩ := HCE.out W hW
                      go_simp
                    try simp only [Act.put, List.setIfInBounds_toArray, List.set_cons_zero, List.set_cons_succ]
                    refine wpAnyD_one (i := 2) (by kernel_rfl) rfl (fun KK hKK => ?_)
                    rw [if_pos (by rfl)]
                    go_simp
                    go_at_call 15
                    refine (HPJ.out _).mono ?_
                    rintro e w5 ⟨rfl, hw5⟩
                    have hF5 : Fr No w4 w5 := by rw [hw5]; exact HD.out
                    clear hw5
                    refine hKK.out _ _ (fun _ => hF5) (fun _ => ?_)
                    clear hKK KK
                    try simp only [Act.put, List.setIfInBounds_toArray, List.set_cons_zero, List.set_cons_succ]
                    refine wpAnyD_one (i := 7) (by kernel_rfl) rfl (fun KK hKK => ?_)
                    rw [if_pos (by rfl)]
                    go_simp
                    go_at_call 16
                    refine (VtI.clone_ ta n (s7 id 0 said spoke) w5 (HTK.out.a.fr hF5 id)).mono ?_
                    rintro e w6 ⟨rfl, hC6, hG6⟩
                    have hF6 : Fr No w4 w6 := hF5.then_ hG6
                    refine hKK.out _ _ (fun _ => hF6) (fun _ => ?_)
                    clear hKK KK
                    try simp only [Act.put, List.setIfInBounds_toArray, List.set_cons_zero, List.set_cons_succ]
                    refine wpAnyD_one (i := 12) (by kernel_rfl) rfl (fun KK hKK => ?_)
                    rw [if_pos (by rfl)]
                    go_simp
                    go_at_call 17
                    refine (VtS.clone_ tb n (s7 textV ByteArray.empty said spoke) w6 (HTK.out.b.fr hF6 id)).mono ?_
                    rintro e w7 ⟨rfl, hC7, hG7⟩
                    have hF7 : Fr No w4 w7 := hF6.then_ hG7
                    refine hKK.out _ _ (fun _ => hF7) (fun _ => ?_)
                    clear hKK KK
                    try simp only [Act.put, List.setIfInBounds_toArray, List.set_cons_zero, List.set_cons_succ]
                    refine wpAnyD_one (i := 17) (by kernel_rfl) rfl (fun KK hKK => ?_)
                    rw [if_pos (by rfl)]
                    go_simp
                    go_at_call 18
                    refine (rClone_ (HTK.out.r.fr hF7 id id id) HTK.out.lo HTK.out.hi).mono ?_
                    rintro e w8 ⟨r2, s2, p2, rfl, hR8, hr2, hs2, hp2, hG8⟩
                    have hF8 : Fr No w4 w8 := hF7.then_ hG8
                    refine hKK.out _ _ (fun _ => hF8) (fun _ => ?_)
                    clear hKK KK
                    try simp only [Act.put, List.setIfInBounds_toArray, List.set_cons_zero, List.set_cons_succ]
                    obtain ⟨ga, hga⟩ : ∃ x, w5.heap.size = x := ⟨_, rfl⟩
                    obtain ⟨gb, hgb⟩ : ∃ x, w6.heap.size = x := ⟨_, rfl⟩
                    rw [hga, hgb]
                    rw [hga] at hC6
                    rw [hgb] at hC7
                    refine wpAnyD_take (i := 18) (v := .agg #[.pointer (some ⟨ga, 0, none⟩), .pointer (some ⟨gb, 0, none⟩), .pointer (some ⟨r2, 0, none⟩)]) (some 95) rfl rfl (by kernel_rfl) (by kernel_rfl) (by kernel_rfl) [20] (by kernel_rfl) (by kernel_rfl) (fun _ _ _ h => h) (Or.inl ⟨by rfl, fun W hW => ?_⟩) hF8 ?_
                    · obtain ⟨o0, o1, o2, o3, of_⟩ := (HO.out.fr hW id).four
                      obtain ⟨c0, c1, c2⟩ := HCE.out W hW
                      go_simp
                    try simp only [Act.put, List.setIfInBounds_toArray, List.set_cons_zero, List.set_cons_succ]
                    refine wpAnyD_take (i := 19) (v := .pointer (some ⟨L, 0, none⟩)) (some 96) rfl rfl (by kernel_rfl) (by kernel_rfl) (by kernel_rfl) [20] (by kernel_rfl) (by kernel_rfl) (fun _ _ _ h => h) (Or.inl ⟨by rfl, fun W hW => ?_⟩) hF8 ?_
                    · obtain ⟨o0, o1, o2, o3, of_⟩ := (HO.out.fr hW id).four
                      obtain ⟨c0, c1, c2⟩ := HCE.out W hW
                      go_simp
                    try simp only [Act.put, List.setIfInBounds_toArray, List.set_cons_zero, List.set_cons_succ]
                    have HTN := Lib.hid (show Th w8 ⟨ga, gb, r2, s2, p2⟩ n said spoke from ⟨(hC6.fr hG7 id).fr hG8 id, hC7.fr hG8 id, hR8, HTK.out.lo, HTK.out.hi⟩)
                    have hz5 := hF5.size
                    have hz6 := hF6.size
                    have hz7 := hF7.size
                    have hw4z : n0 ≤ w4.heap.size := by rw [← HN0.out]; exact HF4.out.size
                    have HSP := Lib.hid (HS4.out.laid (s := some ⟨⟨ga, gb, r2, s2, p2⟩, n, said, spoke⟩) hw4z hF8 (fun x hx => by cases hx; exact ⟨HTN.out, fun r hr => by rcases hr with rfl | rfl | rfl | rfl | rfl <;> omega⟩) 0 (by omega))
                    simp only [Slot.pa, Slot.pb, Slot.pr, Option.map_some] at HSP
                    have HF8 := Lib.hid hF8
                    obtain ⟨e0, e1, e2, eF⟩ := (HS4.out.fr hF8).cells 0 (by omega)
                    clear hF5 hF6 hF7 hF8 hC6 hC7 hG6 hG7 hG8 hR8 hz5 hz6 hz7 hga hgb
                    refine wpAnyD_one (i := 20) (by kernel_rfl) rfl (fun KK hKK => ?_)
                    rw [if_pos (by rfl)]
                    go_simp
                    refine hKK.out _ _ (fun h => absurd rfl h) (fun _ => ?_)
                    clear hKK KK
                    try simp only [Act.put, List.setIfInBounds_toArray, List.set_cons_zero, List.set_cons_succ]
                    refine wpAnyD_done (by kernel_rfl) ?_ _
                    clear e0 e1 e2 eF
                    obtain ⟨w9, hw9⟩ : ∃ x, ((w8.setCell ⟨L, 0, none⟩ (.pointer (some ⟨ga, 0, none⟩))).setCell ⟨L, 1, none⟩ (.pointer (some ⟨gb, 0, none⟩))).setCell ⟨L, 2, none⟩ (.pointer (some ⟨r2, 0, none⟩)) = x := ⟨_, rfl⟩
                    have HSP9 := Lib.hid (show Sys n0 L w9 (upd f 0 (some ⟨⟨ga, gb, r2, s2, p2⟩, n, said, spoke⟩)) by rw [← hw9]; exact HSP.out)
                    have hat := HS4.out.at_
                    have HF9 := Lib.hid (show Fr No w w9 by rw [← hw9]; exact fr_put3 (HF4.out.then_ HF8.out) (by rw [HN0.out]; exact hat) _ _ _ _ _ _)
                    have HO9 := Lib.hid (show Bk w9 B 49 [.int .i64 7, .int .i64 on, .int .i64 who, .int .i64 v] by rw [← hw9]; exact (((HO.out.fr HF8.out id).far (p := ⟨L, 0, none⟩) (by simp only; omega) _).far (p := ⟨L, 1, none⟩) (by simp only; omega) _).far (p := ⟨L, 2, none⟩) (by simp only; omega) _)
                    rw [hw9]
                    obtain ⟨c0, c1, c2, cF⟩ := HSP9.out.cells 0 (by omega)
                    rw [upd_same] at c0 c1 c2
                    simp only [Slot.pa, Slot.pb, Slot.pr, Option.map_some] at c0 c1 c2
                    obtain ⟨o0, o1, o2, o3, of_⟩ := HO9.out.four
                    clear hw9 HSP
                    go_wp2_with fail
                    refine (HPJ.out _).mono ?_
                    rintro e wp ⟨rfl, hwp⟩
                    rw [hwp]
                    clear hwp
                    go_wp2_with fail
                    refine (HPJ.out _).mono ?_
                    rintro e wp ⟨rfl, hwp⟩
                    rw [hwp]
                    clear hwp
                    go_wp2
                    go_roundw
                    case rel => exact ⟨i + 1, hwq, by go_num, _, HSP9.out, HF9.out⟩
                    case measure => simp [intOf]; omega
                  · clear hj
                    rw [show (((1 : Nat) : Int)) = 1 from rfl] at HPJ
                    clear o0 o1 o2 o3 of_ hLF
                    have hd : Fr No w4 w4.drew := (Fr.refl _ _).drew
                    have HD := Lib.hid hd
                    refine wp_region_last (S := fun W => Fr No w4 W) (last := 20) (by kernel_rfl) ?_
                    clear hd c0 c1 c2
                    refine wpAnyD_take (i := 0) (v := .pointer (some ⟨B, 3, none⟩)) (some 77) rfl rfl (by kernel_rfl) (by kernel_rfl) (by kernel_rfl) [20] (by kernel_rfl) (by kernel_rfl) (fun _ _ _ h => h) (Or.inl ⟨by rfl, fun W hW => ?_⟩) HD.out ?_
                    · obtain ⟨o0, o1, o2, o3, of_⟩ := (HO.out.fr hW id).four
                      obtain ⟨c0, c1, c2⟩ := HCE.out W hW
                      go_simp
                    try simp only [Act.put, List.setIfInBounds_toArray, List.set_cons_zero, List.set_cons_succ]
                    refine wpAnyD_take (i := 1) (v := .int .i64 v) (some 78) rfl rfl (by kernel_rfl) (by kernel_rfl) (by kernel_rfl) [20] (by kernel_rfl) (by kernel_rfl) (fun _ _ _ h => h) (Or.inl ⟨by rfl, fun W hW => ?_⟩) HD.out ?_
                    · obtain ⟨o0, o1, o2, o3, of_⟩ := (HO.out.fr hW id).four
                      obtain ⟨c0, c1, c2⟩ := HCE.out W hW
                      go_simp
                    try simp only [Act.put, List.setIfInBounds_toArray, List.set_cons_zero, List.set_cons_succ]
                    refine wpAnyD_take (i := 3) (v := .int .i64 1) (some 80) rfl rfl (by kernel_rfl) (by kernel_rfl) (by kernel_rfl) [20] (by kernel_rfl) (by kernel_rfl) (fun _ _ _ h => h) (Or.inl ⟨by rfl, fun W hW => ?_⟩) HD.out ?_
                    · obtain ⟨o0, o1, o2, o3, of_⟩ := (HO.out.fr hW id).four
                      obtain ⟨c0, c1, c2⟩ := HCE.out W hW
                      go_simp
                    try simp only [Act.put, List.setIfInBounds_toArray, List.set_cons_zero, List.set_cons_succ]
                    refine wpAnyD_take (i := 4) (v := .pointer (some ⟨L, 3, none⟩)) (some 81) rfl rfl (by kernel_rfl) (by kernel_rfl) (by kernel_rfl) [20] (by kernel_rfl) (by kernel_rfl) (fun _ _ _ h => h) (Or.inl ⟨by rfl, fun W hW => ?_⟩) HD.out ?_
                    · obtain ⟨o0, o1, o2, o3, of_⟩ := (HO.out.fr hW id).four
                      obtain ⟨c0, c1, c2⟩ := HCE.out W hW
                      go_simp
                    try simp only [Act.put, List.setIfInBounds_toArray, List.set_cons_zero, List.set_cons_succ]
                    refine wpAnyD_take (i := 5) (v := .pointer (some ⟨L, 3, none⟩)) (some 82) rfl rfl (by kernel_rfl) (by kernel_rfl) (by kernel_rfl) [20] (by kernel_rfl) (by kernel_rfl) (fun _ _ _ h => h) (Or.inl ⟨by rfl, fun W hW => ?_⟩) HD.out ?_
                    · obtain ⟨o0, o1, o2, o3, of_⟩ := (HO.out.fr hW id).four
                      obtain ⟨c0, c1, c2⟩ := HCE.out W hW
                      go_simp
                    try simp only [Act.put, List.setIfInBounds_toArray, List.set_cons_zero, List.set_cons_succ]
                    refine wpAnyD_take (i := 6) (v := .pointer (some ⟨ta, 0, none⟩)) (some 83) rfl rfl (by kernel_rfl) (by kernel_rfl) (by kernel_rfl) [20] (by kernel_rfl) (by kernel_rfl) (fun _ _ _ h => h) (Or.inl ⟨by rfl, fun W hW => ?_⟩) HD.out ?_
                    · obtain ⟨o0, o1, o2, o3, of_⟩ := (HO.out.fr hW id).four
                      obtain ⟨c0, c1, c2⟩ := HCE.out W hW
                      go_simp
                    try simp only [Act.put, List.setIfInBounds_toArray, List.set_cons_zero, List.set_cons_succ]
                    refine wpAnyD_take (i := 8) (v := .int .i64 1) (some 85) rfl rfl (by kernel_rfl) (by kernel_rfl) (by kernel_rfl) [20] (by kernel_rfl) (by kernel_rfl) (fun _ _ _ h => h) (Or.inl ⟨by rfl, fun W hW => ?_⟩) HD.out ?_
                    · obtain ⟨o0, o1, o2, o3, of_⟩ := (HO.out.fr hW id).four
                      obtain ⟨c0, c1, c2⟩ := HCE.out W hW
                      go_simp
                    try simp only [Act.put, List.setIfInBounds_toArray, List.set_cons_zero, List.set_cons_succ]
                    refine wpAnyD_take (i := 9) (v := .pointer (some ⟨L, 3, none⟩)) (some 86) rfl rfl (by kernel_rfl) (by kernel_rfl) (by kernel_rfl) [20] (by kernel_rfl) (by kernel_rfl) (fun _ _ _ h => h) (Or.inl ⟨by rfl, fun W hW => ?_⟩) HD.out ?_
                    · obtain ⟨o0, o1, o2, o3, of_⟩ := (HO.out.fr hW id).four
                      obtain ⟨c0, c1, c2⟩ := HCE.out W hW
                      go_simp
                    try simp only [Act.put, List.setIfInBounds_toArray, List.set_cons_zero, List.set_cons_succ]
                    refine wpAnyD_take (i := 10) (v := .pointer (some ⟨L, 4, none⟩)) (some 87) rfl rfl (by kernel_rfl) (by kernel_rfl) (by kernel_rfl) [20] (by kernel_rfl) (by kernel_rfl) (fun _ _ _ h => h) (Or.inl ⟨by rfl, fun W hW => ?_⟩) HD.out ?_
                    · obtain ⟨o0, o1, o2, o3, of_⟩ := (HO.out.fr hW id).four
                      obtain ⟨c0, c1, c2⟩ := HCE.out W hW
                      go_simp
                    try simp only [Act.put, List.setIfInBounds_toArray, List.set_cons_zero, List.set_cons_succ]
                    refine wpAnyD_take (i := 11) (v := .pointer (some ⟨tb, 0, none⟩)) (some 88) rfl rfl (by kernel_rfl) (by kernel_rfl) (by kernel_rfl) [20] (by kernel_rfl) (by kernel_rfl) (fun _ _ _ h => h) (Or.inl ⟨by rfl, fun W hW => ?_⟩) HD.out ?_
                    · obtain ⟨o0, o1, o2, o3, of_⟩ := (HO.out.fr hW id).four
                      obtain ⟨c0, c1, c2⟩ := HCE.out W hW
                      go_simp
                    try simp only [Act.put, List.setIfInBounds_toArray, List.set_cons_zero, List.set_cons_succ]
                    refine wpAnyD_take (i := 13) (v := .int .i64 1) (some 90) rfl rfl (by kernel_rfl) (by kernel_rfl) (by kernel_rfl) [20] (by kernel_rfl) (by kernel_rfl) (fun _ _ _ h => h) (Or.inl ⟨by rfl, fun W hW => ?_⟩) HD.out ?_
                    · obtain ⟨o0, o1, o2, o3, of_⟩ := (HO.out.fr hW id).four
                      obtain ⟨c0, c1, c2⟩ := HCE.out W hW
                      go_simp
                    try simp only [Act.put, List.setIfInBounds_toArray, List.set_cons_zero, List.set_cons_succ]
                    refine wpAnyD_take (i := 14) (v := .pointer (some ⟨L, 3, none⟩)) (some 91) rfl rfl (by kernel_rfl) (by kernel_rfl) (by kernel_rfl) [20] (by kernel_rfl) (by kernel_rfl) (fun _ _ _ h => h) (Or.inl ⟨by rfl, fun W hW => ?_⟩) HD.out ?_
                    · obtain ⟨o0, o1, o2, o3, of_⟩ := (HO.out.fr hW id).four
                      obtain ⟨c0, c1, c2⟩ := HCE.out W hW
                      go_simp
                    try simp only [Act.put, List.setIfInBounds_toArray, List.set_cons_zero, List.set_cons_succ]
                    refine wpAnyD_take (i := 15) (v := .pointer (some ⟨L, 5, none⟩)) (some 92) rfl rfl (by kernel_rfl) (by kernel_rfl) (by kernel_rfl) [20] (by kernel_rfl) (by kernel_rfl) (fun _ _ _ h => h) (Or.inl ⟨by rfl, fun W hW => ?_⟩) HD.out ?_
                    · obtain ⟨o0, o1, o2, o3, of_⟩ := (HO.out.fr hW id).four
                      obtain ⟨c0, c1, c2⟩ := HCE.out W hW
                      go_simp
                    try simp only [Act.put, List.setIfInBounds_toArray, List.set_cons_zero, List.set_cons_succ]
                    refine wpAnyD_take (i := 16) (v := .pointer (some ⟨tr, 0, none⟩)) (some 93) rfl rfl (by kernel_rfl) (by kernel_rfl) (by kernel_rfl) [20] (by kernel_rfl) (by kernel_rfl) (fun _ _ _ h => h) (Or.inl ⟨by rfl, fun W hW => ?_⟩) HD.out ?_
                    · obtain ⟨o0, o1, o2, o3, of_⟩ := (HO.out.fr hW id).four
                      obtain ⟨c0, c1, c2⟩ := HCE.out W hW
                      go_simp
                    try simp only [Act.put, List.setIfInBounds_toArray, List.set_cons_zero, List.set_cons_succ]
                    refine wpAnyD_one (i := 2) (by kernel_rfl) rfl (fun KK hKK => ?_)
                    rw [if_pos (by rfl)]
                    go_simp
                    go_at_call 15
                    refine (HPJ.out _).mono ?_
                    rintro e w5 ⟨rfl, hw5⟩
                    have hF5 : Fr No w4 w5 := by rw [hw5]; exact HD.out
                    clear hw5
                    refine hKK.out _ _ (fun _ => hF5) (fun _ => ?_)
                    clear hKK KK
                    try simp only [Act.put, List.setIfInBounds_toArray, List.set_cons_zero, List.set_cons_succ]
                    refine wpAnyD_one (i := 7) (by kernel_rfl) rfl (fun KK hKK => ?_)
                    rw [if_pos (by rfl)]
                    go_simp
                    go_at_call 16
                    refine (VtI.clone_ ta n (s7 id 0 said spoke) w5 (HTK.out.a.fr hF5 id)).mono ?_
                    rintro e w6 ⟨rfl, hC6, hG6⟩
                    have hF6 : Fr No w4 w6 := hF5.then_ hG6
                    refine hKK.out _ _ (fun _ => hF6) (fun _ => ?_)
                    clear hKK KK
                    try simp only [Act.put, List.setIfInBounds_toArray, List.set_cons_zero, List.set_cons_succ]
                    refine wpAnyD_one (i := 12) (by kernel_rfl) rfl (fun KK hKK => ?_)
                    rw [if_pos (by rfl)]
                    go_simp
                    go_at_call 17
                    refine (VtS.clone_ tb n (s7 textV ByteArray.empty said spoke) w6 (HTK.out.b.fr hF6 id)).mono ?_
                    rintro e w7 ⟨rfl, hC7, hG7⟩
                    have hF7 : Fr No w4 w7 := hF6.then_ hG7
                    refine hKK.out _ _ (fun _ => hF7) (fun _ => ?_)
                    clear hKK KK
                    try simp only [Act.put, List.setIfInBounds_toArray, List.set_cons_zero, List.set_cons_succ]
                    refine wpAnyD_one (i := 17) (by kernel_rfl) rfl (fun KK hKK => ?_)
                    rw [if_pos (by rfl)]
                    go_simp
                    go_at_call 18
                    refine (rClone_ (HTK.out.r.fr hF7 id id id) HTK.out.lo HTK.out.hi).mono ?_
                    rintro e w8 ⟨r2, s2, p2, rfl, hR8, hr2, hs2, hp2, hG8⟩
                    have hF8 : Fr No w4 w8 := hF7.then_ hG8
                    refine hKK.out _ _ (fun _ => hF8) (fun _ => ?_)
                    clear hKK KK
                    try simp only [Act.put, List.setIfInBounds_toArray, List.set_cons_zero, List.set_cons_succ]
                    obtain ⟨ga, hga⟩ : ∃ x, w5.heap.size = x := ⟨_, rfl⟩
                    obtain ⟨gb, hgb⟩ : ∃ x, w6.heap.size = x := ⟨_, rfl⟩
                    rw [hga, hgb]
                    rw [hga] at hC6
                    rw [hgb] at hC7
                    refine wpAnyD_take (i := 18) (v := .agg #[.pointer (some ⟨ga, 0, none⟩), .pointer (some ⟨gb, 0, none⟩), .pointer (some ⟨r2, 0, none⟩)]) (some 95) rfl rfl (by kernel_rfl) (by kernel_rfl) (by kernel_rfl) [20] (by kernel_rfl) (by kernel_rfl) (fun _ _ _ h => h) (Or.inl ⟨by rfl, fun W hW => ?_⟩) hF8 ?_
                    · obtain ⟨o0, o1, o2, o3, of_⟩ := (HO.out.fr hW id).four
                      obtain ⟨c0, c1, c2⟩ := HCE.out W hW
                      go_simp
                    try simp only [Act.put, List.setIfInBounds_toArray, List.set_cons_zero, List.set_cons_succ]
                    refine wpAnyD_take (i := 19) (v := .pointer (some ⟨L, 3, none⟩)) (some 96) rfl rfl (by kernel_rfl) (by kernel_rfl) (by kernel_rfl) [20] (by kernel_rfl) (by kernel_rfl) (fun _ _ _ h => h) (Or.inl ⟨by rfl, fun W hW => ?_⟩) hF8 ?_
                    · obtain ⟨o0, o1, o2, o3, of_⟩ := (HO.out.fr hW id).four
                      obtain ⟨c0, c1, c2⟩ := HCE.out W hW
                      go_simp
                    try simp only [Act.put, List.setIfInBounds_toArray, List.set_cons_zero, List.set_cons_succ]
                    have HTN := Lib.hid (show Th w8 ⟨ga, gb, r2, s2, p2⟩ n said spoke from ⟨(hC6.fr hG7 id).fr hG8 id, hC7.fr hG8 id, hR8, HTK.out.lo, HTK.out.hi⟩)
                    have hz5 := hF5.size
                    have hz6 := hF6.size
                    have hz7 := hF7.size
                    have hw4z : n0 ≤ w4.heap.size := by rw [← HN0.out]; exact HF4.out.size
                    have HSP := Lib.hid (HS4.out.laid (s := some ⟨⟨ga, gb, r2, s2, p2⟩, n, said, spoke⟩) hw4z hF8 (fun x hx => by cases hx; exact ⟨HTN.out, fun r hr => by rcases hr with rfl | rfl | rfl | rfl | rfl <;> omega⟩) 1 (by omega))
                    simp only [Slot.pa, Slot.pb, Slot.pr, Option.map_some] at HSP
                    have HF8 := Lib.hid hF8
                    obtain ⟨e0, e1, e2, eF⟩ := (HS4.out.fr hF8).cells 1 (by omega)
                    clear hF5 hF6 hF7 hF8 hC6 hC7 hG6 hG7 hG8 hR8 hz5 hz6 hz7 hga hgb
                    refine wpAnyD_one (i := 20) (by kernel_rfl) rfl (fun KK hKK => ?_)
                    rw [if_pos (by rfl)]
                    go_simp
                    refine hKK.out _ _ (fun h => absurd rfl h) (fun _ => ?_)
                    clear hKK KK
                    try simp only [Act.put, List.setIfInBounds_toArray, List.set_cons_zero, List.set_cons_succ]
                    refine wpAnyD_done (by kernel_rfl) ?_ _
                    clear e0 e1 e2 eF
                    obtain ⟨w9, hw9⟩ : ∃ x, ((w8.setCell ⟨L, 3, none⟩ (.pointer (some ⟨ga, 0, none⟩))).setCell ⟨L, 4, none⟩ (.pointer (some ⟨gb, 0, none⟩))).setCell ⟨L, 5, none⟩ (.pointer (some ⟨r2, 0, none⟩)) = x := ⟨_, rfl⟩
                    have HSP9 := Lib.hid (show Sys n0 L w9 (upd f 1 (some ⟨⟨ga, gb, r2, s2, p2⟩, n, said, spoke⟩)) by rw [← hw9]; exact HSP.out)
                    have hat := HS4.out.at_
                    have HF9 := Lib.hid (show Fr No w w9 by rw [← hw9]; exact fr_put3 (HF4.out.then_ HF8.out) (by rw [HN0.out]; exact hat) _ _ _ _ _ _)
                    have HO9 := Lib.hid (show Bk w9 B 49 [.int .i64 7, .int .i64 on, .int .i64 who, .int .i64 v] by rw [← hw9]; exact (((HO.out.fr HF8.out id).far (p := ⟨L, 3, none⟩) (by simp only; omega) _).far (p := ⟨L, 4, none⟩) (by simp only; omega) _).far (p := ⟨L, 5, none⟩) (by simp only; omega) _)
                    rw [hw9]
                    obtain ⟨c0, c1, c2, cF⟩ := HSP9.out.cells 1 (by omega)
                    rw [upd_same] at c0 c1 c2
                    simp only [Slot.pa, Slot.pb, Slot.pr, Option.map_some] at c0 c1 c2
                    obtain ⟨o0, o1, o2, o3, of_⟩ := HO9.out.four
                    clear hw9 HSP
                    go_wp2_with fail
                    refine (HPJ.out _).mono ?_
                    rintro e wp ⟨rfl, hwp⟩
                    rw [hwp]
                    clear hwp
                    go_wp2_with fail
                    refine (HPJ.out _).mono ?_
                    rintro e wp ⟨rfl, hwp⟩
                    rw [hwp]
                    clear hwp
                    go_wp2
                    go_roundw
                    case rel => exact ⟨i + 1, hwq, by go_num, _, HSP9.out, HF9.out⟩
                    case measure => simp [intOf]; omega
                  · clear hj
                    rw [show (((2 : Nat) : Int)) = 2 from rfl] at HPJ
                    clear o0 o1 o2 o3 of_ hLF
                    have hd : Fr No w4 w4.drew := (Fr.refl _ _).drew
                    have HD := Lib.hid hd
                    refine wp_region_last (S := fun W => Fr No w4 W) (last := 20) (by kernel_rfl) ?_
                    clear hd c0 c1 c2
                    refine wpAnyD_take (i := 0) (v := .pointer (some ⟨B, 3, none⟩)) (some 77) rfl rfl (by kernel_rfl) (by kernel_rfl) (by kernel_rfl) [20] (by kernel_rfl) (by kernel_rfl) (fun _ _ _ h => h) (Or.inl ⟨by rfl, fun W hW => ?_⟩) HD.out ?_
                    · obtain ⟨o0, o1, o2, o3, of_⟩ := (HO.out.fr hW id).four
                      obtain ⟨c0, c1, c2⟩ := HCE.out W hW
                      go_simp
                    try simp only [Act.put, List.setIfInBounds_toArray, List.set_cons_zero, List.set_cons_succ]
                    refine wpAnyD_take (i := 1) (v := .int .i64 v) (some 78) rfl rfl (by kernel_rfl) (by kernel_rfl) (by kernel_rfl) [20] (by kernel_rfl) (by kernel_rfl) (fun _ _ _ h => h) (Or.inl ⟨by rfl, fun W hW => ?_⟩) HD.out ?_
                    · obtain ⟨o0, o1, o2, o3, of_⟩ := (HO.out.fr hW id).four
                      obtain ⟨c0, c1, c2⟩ := HCE.out W hW
                      go_simp
                    try simp only [Act.put, List.setIfInBounds_toArray, List.set_cons_zero, List.set_cons_succ]
                    refine wpAnyD_take (i := 3) (v := .int .i64 1) (some 80) rfl rfl (by kernel_rfl) (by kernel_rfl) (by kernel_rfl) [20] (by kernel_rfl) (by kernel_rfl) (fun _ _ _ h => h) (Or.inl ⟨by rfl, fun W hW => ?_⟩) HD.out ?_
                    · obtain ⟨o0, o1, o2, o3, of_⟩ := (HO.out.fr hW id).four
                      obtain ⟨c0, c1, c2⟩ := HCE.out W hW
                      go_simp
                    try simp only [Act.put, List.setIfInBounds_toArray, List.set_cons_zero, List.set_cons_succ]
                    refine wpAnyD_take (i := 4) (v := .pointer (some ⟨L, 3, none⟩)) (some 81) rfl rfl (by kernel_rfl) (by kernel_rfl) (by kernel_rfl) [20] (by kernel_rfl) (by kernel_rfl) (fun _ _ _ h => h) (Or.inl ⟨by rfl, fun W hW => ?_⟩) HD.out ?_
                    · obtain ⟨o0, o1, o2, o3, of_⟩ := (HO.out.fr hW id).four
                      obtain ⟨c0, c1, c2⟩ := HCE.out W hW
                      go_simp
                    try simp only [Act.put, List.setIfInBounds_toArray, List.set_cons_zero, List.set_cons_succ]
                    refine wpAnyD_take (i := 5) (v := .pointer (some ⟨L, 3, none⟩)) (some 82) rfl rfl (by kernel_rfl) (by kernel_rfl) (by kernel_rfl) [20] (by kernel_rfl) (by kernel_rfl) (fun _ _ _ h => h) (Or.inl ⟨by rfl, fun W hW => ?_⟩) HD.out ?_
                    · obtain ⟨o0, o1, o2, o3, of_⟩ := (HO.out.fr hW id).four
                      obtain ⟨c0, c1, c2⟩ := HCE.out W hW
                      go_simp
                    try simp only [Act.put, List.setIfInBounds_toArray, List.set_cons_zero, List.set_cons_succ]
                    refine wpAnyD_take (i := 6) (v := .pointer (some ⟨ta, 0, none⟩)) (some 83) rfl rfl (by kernel_rfl) (by kernel_rfl) (by kernel_rfl) [20] (by kernel_rfl) (by kernel_rfl) (fun _ _ _ h => h) (Or.inl ⟨by rfl, fun W hW => ?_⟩) HD.out ?_
                    · obtain ⟨o0, o1, o2, o3, of_⟩ := (HO.out.fr hW id).four
                      obtain ⟨c0, c1, c2⟩ := HCE.out W hW
                      go_simp
                    try simp only [Act.put, List.setIfInBounds_toArray, List.set_cons_zero, List.set_cons_succ]
                    refine wpAnyD_take (i := 8) (v := .int .i64 1) (some 85) rfl rfl (by kernel_rfl) (by kernel_rfl) (by kernel_rfl) [20] (by kernel_rfl) (by kernel_rfl) (fun _ _ _ h => h) (Or.inl ⟨by rfl, fun W hW => ?_⟩) HD.out ?_
                    · obtain ⟨o0, o1, o2, o3, of_⟩ := (HO.out.fr hW id).four
                      obtain ⟨c0, c1, c2⟩ := HCE.out W hW
                      go_simp
                    try simp only [Act.put, List.setIfInBounds_toArray, List.set_cons_zero, List.set_cons_succ]
                    refine wpAnyD_take (i := 9) (v := .pointer (some ⟨L, 3, none⟩)) (some 86) rfl rfl (by kernel_rfl) (by kernel_rfl) (by kernel_rfl) [20] (by kernel_rfl) (by kernel_rfl) (fun _ _ _ h => h) (Or.inl ⟨by rfl, fun W hW => ?_⟩) HD.out ?_
                    · obtain ⟨o0, o1, o2, o3, of_⟩ := (HO.out.fr hW id).four
                      obtain ⟨c0, c1, c2⟩ := HCE.out W hW
                      go_simp
                    try simp only [Act.put, List.setIfInBounds_toArray, List.set_cons_zero, List.set_cons_succ]
                    refine wpAnyD_take (i := 10) (v := .pointer (some ⟨L, 4, none⟩)) (some 87) rfl rfl (by kernel_rfl) (by kernel_rfl) (by kernel_rfl) [20] (by kernel_rfl) (by kernel_rfl) (fun _ _ _ h => h) (Or.inl ⟨by rfl, fun W hW => ?_⟩) HD.out ?_
                    · obtain ⟨o0, o1, o2, o3, of_⟩ := (HO.out.fr hW id).four
                      obtain ⟨c0, c1, c2⟩ := HCE.out W hW
                      go_simp
                    try simp only [Act.put, List.setIfInBounds_toArray, List.set_cons_zero, List.set_cons_succ]
                    refine wpAnyD_take (i := 11) (v := .pointer (some ⟨tb, 0, none⟩)) (some 88) rfl rfl (by kernel_rfl) (by kernel_rfl) (by kernel_rfl) [20] (by kernel_rfl) (by kernel_rfl) (fun _ _ _ h => h) (Or.inl ⟨by rfl, fun W hW => ?_⟩) HD.out ?_
                    · obtain ⟨o0, o1, o2, o3, of_⟩ := (HO.out.fr hW id).four
                      obtain ⟨c0, c1, c2⟩ := HCE.out W hW
                      go_simp
                    try simp only [Act.put, List.setIfInBounds_toArray, List.set_cons_zero, List.set_cons_succ]
                    refine wpAnyD_take (i := 13) (v := .int .i64 1) (some 90) rfl rfl (by kernel_rfl) (by kernel_rfl) (by kernel_rfl) [20] (by kernel_rfl) (by kernel_rfl) (fun _ _ _ h => h) (Or.inl ⟨by rfl, fun W hW => ?_⟩) HD.out ?_
                    · obtain ⟨o0, o1, o2, o3, of_⟩ := (HO.out.fr hW id).four
                      obtain ⟨c0, c1, c2⟩ := HCE.out W hW
                      go_simp
                    try simp only [Act.put, List.setIfInBounds_toArray, List.set_cons_zero, List.set_cons_succ]
                    refine wpAnyD_take (i := 14) (v := .pointer (some ⟨L, 3, none⟩)) (some 91) rfl rfl (by kernel_rfl) (by kernel_rfl) (by kernel_rfl) [20] (by kernel_rfl) (by kernel_rfl) (fun _ _ _ h => h) (Or.inl ⟨by rfl, fun W hW => ?_⟩) HD.out ?_
                    · obtain ⟨o0, o1, o2, o3, of_⟩ := (HO.out.fr hW id).four
                      obtain ⟨c0, c1, c2⟩ := HCE.out W hW
                      go_simp
                    try simp only [Act.put, List.setIfInBounds_toArray, List.set_cons_zero, List.set_cons_succ]
                    refine wpAnyD_take (i := 15) (v := .pointer (some ⟨L, 5, none⟩)) (some 92) rfl rfl (by kernel_rfl) (by kernel_rfl) (by kernel_rfl) [20] (by kernel_rfl) (by kernel_rfl) (fun _ _ _ h => h) (Or.inl ⟨by rfl, fun W hW => ?_⟩) HD.out ?_
                    · obtain ⟨o0, o1, o2, o3, of_⟩ := (HO.out.fr hW id).four
                      obtain ⟨c0, c1, c2⟩ := HCE.out W hW
                      go_simp
                    try simp only [Act.put, List.setIfInBounds_toArray, List.set_cons_zero, List.set_cons_succ]
                    refine wpAnyD_take (i := 16) (v := .pointer (some ⟨tr, 0, none⟩)) (some 93) rfl rfl (by kernel_rfl) (by kernel_rfl) (by kernel_rfl) [20] (by kernel_rfl) (by kernel_rfl) (fun _ _ _ h => h) (Or.inl ⟨by rfl, fun W hW => ?_⟩) HD.out ?_
                    · obtain ⟨o0, o1, o2, o3, of_⟩ := (HO.out.fr hW id).four
                      obtain ⟨c0, c1, c2⟩ := HCE.out W hW
                      go_simp
                    try simp only [Act.put, List.setIfInBounds_toArray, List.set_cons_zero, List.set_cons_succ]
                    refine wpAnyD_one (i := 2) (by kernel_rfl) rfl (fun KK hKK => ?_)
                    rw [if_pos (by rfl)]
                    go_simp
                    go_at_call 15
                    refine (HPJ.out _).mono ?_
                    rintro e w5 ⟨rfl, hw5⟩
                    have hF5 : Fr No w4 w5 := by rw [hw5]; exact HD.out
                    clear hw5
                    refine hKK.out _ _ (fun _ => hF5) (fun _ => ?_)
                    clear hKK KK
                    try simp only [Act.put, List.setIfInBounds_toArray, List.set_cons_zero, List.set_cons_succ]
                    refine wpAnyD_one (i := 7) (by kernel_rfl) rfl (fun KK hKK => ?_)
                    rw [if_pos (by rfl)]
                    go_simp
                    go_at_call 16
                    refine (VtI.clone_ ta n (s7 id 0 said spoke) w5 (HTK.out.a.fr hF5 id)).mono ?_
                    rintro e w6 ⟨rfl, hC6, hG6⟩
                    have hF6 : Fr No w4 w6 := hF5.then_ hG6
                    refine hKK.out _ _ (fun _ => hF6) (fun _ => ?_)
                    clear hKK KK
                    try simp only [Act.put, List.setIfInBounds_toArray, List.set_cons_zero, List.set_cons_succ]
                    refine wpAnyD_one (i := 12) (by kernel_rfl) rfl (fun KK hKK => ?_)
                    rw [if_pos (by rfl)]
                    go_simp
                    go_at_call 17
                    refine (VtS.clone_ tb n (s7 textV ByteArray.empty said spoke) w6 (HTK.out.b.fr hF6 id)).mono ?_
                    rintro e w7 ⟨rfl, hC7, hG7⟩
                    have hF7 : Fr No w4 w7 := hF6.then_ hG7
                    refine hKK.out _ _ (fun _ => hF7) (fun _ => ?_)
                    clear hKK KK
                    try simp only [Act.put, List.setIfInBounds_toArray, List.set_cons_zero, List.set_cons_succ]
                    refine wpAnyD_one (i := 17) (by kernel_rfl) rfl (fun KK hKK => ?_)
                    rw [if_pos (by rfl)]
                    go_simp
                    go_at_call 18
                    refine (rClone_ (HTK.out.r.fr hF7 id id id) HTK.out.lo HTK.out.hi).mono ?_
                    rintro e w8 ⟨r2, s2, p2, rfl, hR8, hr2, hs2, hp2, hG8⟩
                    have hF8 : Fr No w4 w8 := hF7.then_ hG8
                    refine hKK.out _ _ (fun _ => hF8) (fun _ => ?_)
                    clear hKK KK
                    try simp only [Act.put, List.setIfInBounds_toArray, List.set_cons_zero, List.set_cons_succ]
                    obtain ⟨ga, hga⟩ : ∃ x, w5.heap.size = x := ⟨_, rfl⟩
                    obtain ⟨gb, hgb⟩ : ∃ x, w6.heap.size = x := ⟨_, rfl⟩
                    rw [hga, hgb]
                    rw [hga] at hC6
                    rw [hgb] at hC7
                    refine wpAnyD_take (i := 18) (v := .agg #[.pointer (some ⟨ga, 0, none⟩), .pointer (some ⟨gb, 0, none⟩), .pointer (some ⟨r2, 0, none⟩)]) (some 95) rfl rfl (by kernel_rfl) (by kernel_rfl) (by kernel_rfl) [20] (by kernel_rfl) (by kernel_rfl) (fun _ _ _ h => h) (Or.inl ⟨by rfl, fun W hW => ?_⟩) hF8 ?_
                    · obtain ⟨o0, o1, o2, o3, of_⟩ := (HO.out.fr hW id).four
                      obtain ⟨c0, c1, c2⟩ := HCE.out W hW
                      go_simp
                    try simp only [Act.put, List.setIfInBounds_toArray, List.set_cons_zero, List.set_cons_succ]
                    refine wpAnyD_take (i := 19) (v := .pointer (some ⟨L, 6, none⟩)) (some 96) rfl rfl (by kernel_rfl) (by kernel_rfl) (by kernel_rfl) [20] (by kernel_rfl) (by kernel_rfl) (fun _ _ _ h => h) (Or.inl ⟨by rfl, fun W hW => ?_⟩) hF8 ?_
                    · obtain ⟨o0, o1, o2, o3, of_⟩ := (HO.out.fr hW id).four
                      obtain ⟨c0, c1, c2⟩ := HCE.out W hW
                      go_simp
                    try simp only [Act.put, List.setIfInBounds_toArray, List.set_cons_zero, List.set_cons_succ]
                    have HTN := Lib.hid (show Th w8 ⟨ga, gb, r2, s2, p2⟩ n said spoke from ⟨(hC6.fr hG7 id).fr hG8 id, hC7.fr hG8 id, hR8, HTK.out.lo, HTK.out.hi⟩)
                    have hz5 := hF5.size
                    have hz6 := hF6.size
                    have hz7 := hF7.size
                    have hw4z : n0 ≤ w4.heap.size := by rw [← HN0.out]; exact HF4.out.size
                    have HSP := Lib.hid (HS4.out.laid (s := some ⟨⟨ga, gb, r2, s2, p2⟩, n, said, spoke⟩) hw4z hF8 (fun x hx => by cases hx; exact ⟨HTN.out, fun r hr => by rcases hr with rfl | rfl | rfl | rfl | rfl <;> omega⟩) 2 (by omega))
                    simp only [Slot.pa, Slot.pb, Slot.pr, Option.map_some] at HSP
                    have HF8 := Lib.hid hF8
                    obtain ⟨e0, e1, e2, eF⟩ := (HS4.out.fr hF8).cells 2 (by omega)
                    clear hF5 hF6 hF7 hF8 hC6 hC7 hG6 hG7 hG8 hR8 hz5 hz6 hz7 hga hgb
                    refine wpAnyD_one (i := 20) (by kernel_rfl) rfl (fun KK hKK => ?_)
                    rw [if_pos (by rfl)]
                    go_simp
                    refine hKK.out _ _ (fun h => absurd rfl h) (fun _ => ?_)
                    clear hKK KK
                    try simp only [Act.put, List.setIfInBounds_toArray, List.set_cons_zero, List.set_cons_succ]
                    refine wpAnyD_done (by kernel_rfl) ?_ _
                    clear e0 e1 e2 eF
                    obtain ⟨w9, hw9⟩ : ∃ x, ((w8.setCell ⟨L, 6, none⟩ (.pointer (some ⟨ga, 0, none⟩))).setCell ⟨L, 7, none⟩ (.pointer (some ⟨gb, 0, none⟩))).setCell ⟨L, 8, none⟩ (.pointer (some ⟨r2, 0, none⟩)) = x := ⟨_, rfl⟩
                    have HSP9 := Lib.hid (show Sys n0 L w9 (upd f 2 (some ⟨⟨ga, gb, r2, s2, p2⟩, n, said, spoke⟩)) by rw [← hw9]; exact HSP.out)
                    have hat := HS4.out.at_
                    have HF9 := Lib.hid (show Fr No w w9 by rw [← hw9]; exact fr_put3 (HF4.out.then_ HF8.out) (by rw [HN0.out]; exact hat) _ _ _ _ _ _)
                    have HO9 := Lib.hid (show Bk w9 B 49 [.int .i64 7, .int .i64 on, .int .i64 who, .int .i64 v] by rw [← hw9]; exact (((HO.out.fr HF8.out id).far (p := ⟨L, 6, none⟩) (by simp only; omega) _).far (p := ⟨L, 7, none⟩) (by simp only; omega) _).far (p := ⟨L, 8, none⟩) (by simp only; omega) _)
                    rw [hw9]
                    obtain ⟨c0, c1, c2, cF⟩ := HSP9.out.cells 2 (by omega)
                    rw [upd_same] at c0 c1 c2
                    simp only [Slot.pa, Slot.pb, Slot.pr, Option.map_some] at c0 c1 c2
                    obtain ⟨o0, o1, o2, o3, of_⟩ := HO9.out.four
                    clear hw9 HSP
                    go_wp2_with fail
                    refine (HPJ.out _).mono ?_
                    rintro e wp ⟨rfl, hwp⟩
                    rw [hwp]
                    clear hwp
                    go_wp2_with fail
                    refine (HPJ.out _).mono ?_
                    rintro e wp ⟨rfl, hwp⟩
                    rw [hwp]
                    clear hwp
                    go_wp2
                    go_roundw
                    case rel => exact ⟨i + 1, hwq, by go_num, _, HSP9.out, HF9.out⟩
                    case measure => simp [intOf]; omega
                · have d7 : (knd == 7) = false := by rw [beq_eq_false_iff_ne]; exact k7
                  have HSA := Lib.hid (fun W hT => step_any (w := W) (t := ⟨ta, tb, tr, ts, tp⟩) (n := n) (said := said) (spoke := spoke) hT knd on who v HWF.out.1 HWF.out.2)
                  unfold TB.v stepV at HSA
                  clear k7
                  go_upto_region 28 with (fail)
                  go_still_tail 4, (by kernel_rfl)
                  change wpList _ _ _ _ _ w4.drew
                  clear o0 o1 o2 o3 of_ c0 c1 c2 hLF d9 d7
                  have hd : Fr No w4 w4.drew := (Fr.refl _ _).drew
                  have HD := Lib.hid hd
                  clear hd
                  go_wp2_with fail
                  refine (HSA.out w4.drew ((HS4.out.fr HD.out).th 1 _ HFK.out).1).mono ?_
                  rintro e w7 ⟨rfl, ⟨sd, sp, hT7⟩, hF7⟩
                  have HSN := Lib.hid ((HS4.out.fr HD.out).step HFK.out hT7 hF7)
                  have HFN := Lib.hid ((HF4.out.then_ HD.out).trans hF7 (fun r hr hk => by have := (HS4.out.th 1 _ HFK.out).2 r hk; rw [HN0.out] at hr; omega))
                  clear hT7 hF7
                  go_wp2
                  go_roundw
                  case rel => exact ⟨i + 1, hwq, by go_num, _, HSN.out, HFN.out⟩
                  case measure => simp [intOf]; omega
          · clear hk
            rw [show (((2 : Nat) : Int)) = 2 from rfl] at HPK
            go_upto_region 17 with (fail)
            rw [HW4.out, HB.out]
            clear x0 x1 x2 x3
            obtain ⟨o0, o1, o2, o3, of_⟩ := HO.out.four
            go_wp2_with fail
            refine (HPK.out w4).mono ?_
            rintro e w5 ⟨rfl, hw5⟩
            rw [hw5]
            clear hw5
            by_cases k9 : knd = 9
            · subst k9
              go_wp2_with fail
              refine (made_any v w4).mono ?_
              rintro e w3 ⟨s, he, hF3, hT3⟩
              have HS := HS4
              have HF := HF4
              clear o0 o1 o2 o3 of_
              unfold Slot.v at he
              subst he
              obtain ⟨pA, hpA⟩ : ∃ x, Slot.pa s = x := ⟨_, rfl⟩
              obtain ⟨pB, hpB⟩ : ∃ x, Slot.pb s = x := ⟨_, rfl⟩
              obtain ⟨pR, hpR⟩ : ∃ x, Slot.pr s = x := ⟨_, rfl⟩
              rw [hpA, hpB, hpR]
              obtain ⟨w6, hw6⟩ : ∃ x, w3.alloc (.cells #[.pointer pA, .pointer pB, .pointer pR] 44 (0, 0)) = x := ⟨_, rfl⟩
              have HF6 := Lib.hid (show Fr No w4 w6 by rw [← hw6]; exact hF3.alloc _)
              have HSP := Lib.hid (HS.out.laid (by rw [← HN0.out]; exact HF.out.size) HF6.out (fun x hx => ⟨(hT3 x hx).1.fr (show Fr No w3 w6 by rw [← hw6]; exact (Fr.refl _ _).alloc _) (fun _ _ q => q), (hT3 x hx).2⟩) 2 (by omega))
              obtain ⟨c0, c1, c2, hLF⟩ := (HS.out.fr HF6.out).cells 2 (by omega)
              rw [hpA, hpB, hpR] at HSP
              have hat := HS.out.at_
              rw [← hw6] at hLF c0 c1 c2
              have HW6 := Lib.hid hw6
              clear hF3 hT3 hpA hpB hpR hw6

              go_wp2
              rw [HW6.out]
              go_roundw
              case rel => exact ⟨i + 1, hwq, by go_num, _, HSP.out, fr_put3 (HF.out.then_ HF6.out) (by rw [HN0.out]; exact hat) _ _ _ _ _ _⟩
              case measure => simp [intOf]; omega
            · have d9 : (knd == 9) = false := by rw [beq_eq_false_iff_ne]; exact k9
              obtain ⟨c0, c1, c2, hLF⟩ := HS4.out.cells 2 (by omega)
              rcases hfk : f 2 with _ | x
              · rw [hfk] at c0 c1 c2
                clear hfk k9
                go_wp2
                go_roundw
                case rel => exact ⟨i + 1, hwq, by go_num, _, HS4.out, HF4.out⟩
                case measure => simp [intOf]; omega
              · rw [hfk] at c0 c1 c2
                have HFK := Lib.hid hfk
                have HK9 := Lib.hid k9
                clear hfk k9
                obtain ⟨⟨ta, tb, tr, ts, tp⟩, n, said, spoke⟩ := x
                simp only [Slot.pa, Slot.pb, Slot.pr, Option.map_some] at c0 c1 c2
                by_cases k7 : knd = 7
                · subst k7
                  clear HWF d9
                  have HTK := Lib.hid ((HS4.out.th 2 _ HFK.out).1)
                  have HCE := Lib.hid (fun W (hW : Fr No w4 W) => show W.cell? ⟨L, 6, none⟩ = some (.pointer (some ⟨ta, 0, none⟩)) ∧ W.cell? ⟨L, 7, none⟩ = some (.pointer (some ⟨tb, 0, none⟩)) ∧ W.cell? ⟨L, 8, none⟩ = some (.pointer (some ⟨tr, 0, none⟩)) by
                    obtain ⟨c0, c1, c2, _⟩ := (HS4.out.fr hW).cells 2 (by omega)
                    rw [HFK.out] at c0 c1 c2
                    exact ⟨c0, c1, c2⟩)
                  dsimp only at HTK
                  go_upto_region 25 with (fail)
                  obtain rfl | rfl | rfl : j = 0 ∨ j = 1 ∨ j = 2 := by omega
                  · clear hj
                    rw [show (((0 : Nat) : Int)) = 0 from rfl] at HPJ
                    clear o0 o1 o2 o3 of_ hLF
                    have hd : Fr No w4 w4.drew := (Fr.refl _ _).drew
                    have HD := Lib.hid hd
                    refine wp_region_last (S := fun W => Fr No w4 W) (last := 20) (by kernel_rfl) ?_
                    clear hd c0 c1 c2
                    refine wpAnyD_take (i := 0) (v := .pointer (some ⟨B, 3, none⟩)) (some 77) rfl rfl (by kernel_rfl) (by kernel_rfl) (by kernel_rfl) [20] (by kernel_rfl) (by kernel_rfl) (fun _ _ _ h => h) (Or.inl ⟨by rfl, fun W hW => ?_⟩) HD.out ?_
                    · obtain ⟨o0, o1, o2, o3, of_⟩ := (HO.out.fr hW id).four
                      obtain ⟨c0, c1, c2⟩ := HCE.out W hW
                      go_simp
                    try simp only [Act.put, List.setIfInBounds_toArray, List.set_cons_zero, List.set_cons_succ]
                    refine wpAnyD_take (i := 1) (v := .int .i64 v) (some 78) rfl rfl (by kernel_rfl) (by kernel_rfl) (by kernel_rfl) [20] (by kernel_rfl) (by kernel_rfl) (fun _ _ _ h => h) (Or.inl ⟨by rfl, fun W hW => ?_⟩) HD.out ?_
                    · obtain ⟨o0, o1, o2, o3, of_⟩ := (HO.out.fr hW id).four
                      obtain ⟨c0, c1, c2⟩ := HCE.out W hW
                      go_simp
                    try simp only [Act.put, List.setIfInBounds_toArray, List.set_cons_zero, List.set_cons_succ]
                    refine wpAnyD_take (i := 3) (v := .int .i64 2) (some 80) rfl rfl (by kernel_rfl) (by kernel_rfl) (by kernel_rfl) [20] (by kernel_rfl) (by kernel_rfl) (fun _ _ _ h => h) (Or.inl ⟨by rfl, fun W hW => ?_⟩) HD.out ?_
                    · obtain ⟨o0, o1, o2, o3, of_⟩ := (HO.out.fr hW id).four
                      obtain ⟨c0, c1, c2⟩ := HCE.out W hW
                      go_simp
                    try simp only [Act.put, List.setIfInBounds_toArray, List.set_cons_zero, List.set_cons_succ]
                    refine wpAnyD_take (i := 4) (v := .pointer (some ⟨L, 6, none⟩)) (some 81) rfl rfl (by kernel_rfl) (by kernel_rfl) (by kernel_rfl) [20] (by kernel_rfl) (by kernel_rfl) (fun _ _ _ h => h) (Or.inl ⟨by rfl, fun W hW => ?_⟩) HD.out ?_
                    · obtain ⟨o0, o1, o2, o3, of_⟩ := (HO.out.fr hW id).four
                      obtain ⟨c0, c1, c2⟩ := HCE.out W hW
                      go_simp
                    try simp only [Act.put, List.setIfInBounds_toArray, List.set_cons_zero, List.set_cons_succ]
                    refine wpAnyD_take (i := 5) (v := .pointer (some ⟨L, 6, none⟩)) (some 82) rfl rfl (by kernel_rfl) (by kernel_rfl) (by kernel_rfl) [20] (by kernel_rfl) (by kernel_rfl) (fun _ _ _ h => h) (Or.inl ⟨by rfl, fun W hW => ?_⟩) HD.out ?_
                    · obtain ⟨o0, o1, o2, o3, of_⟩ := (HO.out.fr hW id).four
                      obtain ⟨c0, c1, c2⟩ := HCE.out W hW
                      go_simp
                    try simp only [Act.put, List.setIfInBounds_toArray, List.set_cons_zero, List.set_cons_succ]
                    refine wpAnyD_take (i := 6) (v := .pointer (some ⟨ta, 0, none⟩)) (some 83) rfl rfl (by kernel_rfl) (by kernel_rfl) (by kernel_rfl) [20] (by kernel_rfl) (by kernel_rfl) (fun _ _ _ h => h) (Or.inl ⟨by rfl, fun W hW => ?_⟩) HD.out ?_
                    · obtain ⟨o0, o1, o2, o3, of_⟩ := (HO.out.fr hW id).four
                      obtain ⟨c0, c1, c2⟩ := HCE.out W hW
                      go_simp
                    try simp only [Act.put, List.setIfInBounds_toArray, List.set_cons_zero, List.set_cons_succ]
                    refine wpAnyD_take (i := 8) (v := .int .i64 2) (some 85) rfl rfl (by kernel_rfl) (by kernel_rfl) (by kernel_rfl) [20] (by kernel_rfl) (by kernel_rfl) (fun _ _ _ h => h) (Or.inl ⟨by rfl, fun W hW => ?_⟩) HD.out ?_
                    · obtain ⟨o0, o1, o2, o3, of_⟩ := (HO.out.fr hW id).four
                      obtain ⟨c0, c1, c2⟩ := HCE.out W hW
                      go_simp
                    try simp only [Act.put, List.setIfInBounds_toArray, List.set_cons_zero, List.set_cons_succ]
                    refine wpAnyD_take (i := 9) (v := .pointer (some ⟨L, 6, none⟩)) (some 86) rfl rfl (by kernel_rfl) (by kernel_rfl) (by kernel_rfl) [20] (by kernel_rfl) (by kernel_rfl) (fun _ _ _ h => h) (Or.inl ⟨by rfl, fun W hW => ?_⟩) HD.out ?_
                    · obtain ⟨o0, o1, o2, o3, of_⟩ := (HO.out.fr hW id).four
                      obtain ⟨c0, c1, c2⟩ := HCE.out W hW
                      go_simp
                    try simp only [Act.put, List.setIfInBounds_toArray, List.set_cons_zero, List.set_cons_succ]
                    refine wpAnyD_take (i := 10) (v := .pointer (some ⟨L, 7, none⟩)) (some 87) rfl rfl (by kernel_rfl) (by kernel_rfl) (by kernel_rfl) [20] (by kernel_rfl) (by kernel_rfl) (fun _ _ _ h => h) (Or.inl ⟨by rfl, fun W hW => ?_⟩) HD.out ?_
                    · obtain ⟨o0, o1, o2, o3, of_⟩ := (HO.out.fr hW id).four
                      obtain ⟨c0, c1, c2⟩ := HCE.out W hW
                      go_simp
                    try simp only [Act.put, List.setIfInBounds_toArray, List.set_cons_zero, List.set_cons_succ]
                    refine wpAnyD_take (i := 11) (v := .pointer (some ⟨tb, 0, none⟩)) (some 88) rfl rfl (by kernel_rfl) (by kernel_rfl) (by kernel_rfl) [20] (by kernel_rfl) (by kernel_rfl) (fun _ _ _ h => h) (Or.inl ⟨by rfl, fun W hW => ?_⟩) HD.out ?_
                    · obtain ⟨o0, o1, o2, o3, of_⟩ := (HO.out.fr hW id).four
                      obtain ⟨c0, c1, c2⟩ := HCE.out W hW
                      go_simp
                    try simp only [Act.put, List.setIfInBounds_toArray, List.set_cons_zero, List.set_cons_succ]
                    refine wpAnyD_take (i := 13) (v := .int .i64 2) (some 90) rfl rfl (by kernel_rfl) (by kernel_rfl) (by kernel_rfl) [20] (by kernel_rfl) (by kernel_rfl) (fun _ _ _ h => h) (Or.inl ⟨by rfl, fun W hW => ?_⟩) HD.out ?_
                    · obtain ⟨o0, o1, o2, o3, of_⟩ := (HO.out.fr hW id).four
                      obtain ⟨c0, c1, c2⟩ := HCE.out W hW
                      go_simp
                    try simp only [Act.put, List.setIfInBounds_toArray, List.set_cons_zero, List.set_cons_succ]
                    refine wpAnyD_take (i := 14) (v := .pointer (some ⟨L, 6, none⟩)) (some 91) rfl rfl (by kernel_rfl) (by kernel_rfl) (by kernel_rfl) [20] (by kernel_rfl) (by kernel_rfl) (fun _ _ _ h => h) (Or.inl ⟨by rfl, fun W hW => ?_⟩) HD.out ?_
                    · obtain ⟨o0, o1, o2, o3, of_⟩ := (HO.out.fr hW id).four
                      obtain ⟨c0, c1, c2⟩ := HCE.out W hW
                      go_simp
                    try simp only [Act.put, List.setIfInBounds_toArray, List.set_cons_zero, List.set_cons_succ]
                    refine wpAnyD_take (i := 15) (v := .pointer (some ⟨L, 8, none⟩)) (some 92) rfl rfl (by kernel_rfl) (by kernel_rfl) (by kernel_rfl) [20] (by kernel_rfl) (by kernel_rfl) (fun _ _ _ h => h) (Or.inl ⟨by rfl, fun W hW => ?_⟩) HD.out ?_
                    · obtain ⟨o0, o1, o2, o3, of_⟩ := (HO.out.fr hW id).four
                      obtain ⟨c0, c1, c2⟩ := HCE.out W hW
                      go_simp
                    try simp only [Act.put, List.setIfInBounds_toArray, List.set_cons_zero, List.set_cons_succ]
                    refine wpAnyD_take (i := 16) (v := .pointer (some ⟨tr, 0, none⟩)) (some 93) rfl rfl (by kernel_rfl) (by kernel_rfl) (by kernel_rfl) [20] (by kernel_rfl) (by kernel_rfl) (fun _ _ _ h => h) (Or.inl ⟨by rfl, fun W hW => ?_⟩) HD.out ?_
                    · obtain ⟨o0, o1, o2, o3, of_⟩ := (HO.out.fr hW id).four
                      obtain ⟨c0, c1, c2⟩ := HCE.out W hW
                      go_simp
                    try simp only [Act.put, List.setIfInBounds_toArray, List.set_cons_zero, List.set_cons_succ]
                    refine wpAnyD_one (i := 2) (by kernel_rfl) rfl (fun KK hKK => ?_)
                    rw [if_pos (by rfl)]
                    go_simp
                    go_at_call 15
                    refine (HPJ.out _).mono ?_
                    rintro e w5 ⟨rfl, hw5⟩
                    have hF5 : Fr No w4 w5 := by rw [hw5]; exact HD.out
                    clear hw5
                    refine hKK.out _ _ (fun _ => hF5) (fun _ => ?_)
                    clear hKK KK
                    try simp only [Act.put, List.setIfInBounds_toArray, List.set_cons_zero, List.set_cons_succ]
                    refine wpAnyD_one (i := 7) (by kernel_rfl) rfl (fun KK hKK => ?_)
                    rw [if_pos (by rfl)]
                    go_simp
                    go_at_call 16
                    refine (VtI.clone_ ta n (s7 id 0 said spoke) w5 (HTK.out.a.fr hF5 id)).mono ?_
                    rintro e w6 ⟨rfl, hC6, hG6⟩
                    have hF6 : Fr No w4 w6 := hF5.then_ hG6
                    refine hKK.out _ _ (fun _ => hF6) (fun _ => ?_)
                    clear hKK KK
                    try simp only [Act.put, List.setIfInBounds_toArray, List.set_cons_zero, List.set_cons_succ]
                    refine wpAnyD_one (i := 12) (by kernel_rfl) rfl (fun KK hKK => ?_)
                    rw [if_pos (by rfl)]
                    go_simp
                    go_at_call 17
                    refine (VtS.clone_ tb n (s7 textV ByteArray.empty said spoke) w6 (HTK.out.b.fr hF6 id)).mono ?_
                    rintro e w7 ⟨rfl, hC7, hG7⟩
                    have hF7 : Fr No w4 w7 := hF6.then_ hG7
                    refine hKK.out _ _ (fun _ => hF7) (fun _ => ?_)
                    clear hKK KK
                    try simp only [Act.put, List.setIfInBounds_toArray, List.set_cons_zero, List.set_cons_succ]
                    refine wpAnyD_one (i := 17) (by kernel_rfl) rfl (fun KK hKK => ?_)
                    rw [if_pos (by rfl)]
                    go_simp
                    go_at_call 18
                    refine (rClone_ (HTK.out.r.fr hF7 id id id) HTK.out.lo HTK.out.hi).mono ?_
                    rintro e w8 ⟨r2, s2, p2, rfl, hR8, hr2, hs2, hp2, hG8⟩
                    have hF8 : Fr No w4 w8 := hF7.then_ hG8
                    refine hKK.out _ _ (fun _ => hF8) (fun _ => ?_)
                    clear hKK KK
                    try simp only [Act.put, List.setIfInBounds_toArray, List.set_cons_zero, List.set_cons_succ]
                    obtain ⟨ga, hga⟩ : ∃ x, w5.heap.size = x := ⟨_, rfl⟩
                    obtain ⟨gb, hgb⟩ : ∃ x, w6.heap.size = x := ⟨_, rfl⟩
                    rw [hga, hgb]
                    rw [hga] at hC6
                    rw [hgb] at hC7
                    refine wpAnyD_take (i := 18) (v := .agg #[.pointer (some ⟨ga, 0, none⟩), .pointer (some ⟨gb, 0, none⟩), .pointer (some ⟨r2, 0, none⟩)]) (some 95) rfl rfl (by kernel_rfl) (by kernel_rfl) (by kernel_rfl) [20] (by kernel_rfl) (by kernel_rfl) (fun _ _ _ h => h) (Or.inl ⟨by rfl, fun W hW => ?_⟩) hF8 ?_
                    · obtain ⟨o0, o1, o2, o3, of_⟩ := (HO.out.fr hW id).four
                      obtain ⟨c0, c1, c2⟩ := HCE.out W hW
                      go_simp
                    try simp only [Act.put, List.setIfInBounds_toArray, List.set_cons_zero, List.set_cons_succ]
                    refine wpAnyD_take (i := 19) (v := .pointer (some ⟨L, 0, none⟩)) (some 96) rfl rfl (by kernel_rfl) (by kernel_rfl) (by kernel_rfl) [20] (by kernel_rfl) (by kernel_rfl) (fun _ _ _ h => h) (Or.inl ⟨by rfl, fun W hW => ?_⟩) hF8 ?_
                    · obtain ⟨o0, o1, o2, o3, of_⟩ := (HO.out.fr hW id).four
                      obtain ⟨c0, c1, c2⟩ := HCE.out W hW
                      go_simp
                    try simp only [Act.put, List.setIfInBounds_toArray, List.set_cons_zero, List.set_cons_succ]
                    have HTN := Lib.hid (show Th w8 ⟨ga, gb, r2, s2, p2⟩ n said spoke from ⟨(hC6.fr hG7 id).fr hG8 id, hC7.fr hG8 id, hR8, HTK.out.lo, HTK.out.hi⟩)
                    have hz5 := hF5.size
                    have hz6 := hF6.size
                    have hz7 := hF7.size
                    have hw4z : n0 ≤ w4.heap.size := by rw [← HN0.out]; exact HF4.out.size
                    have HSP := Lib.hid (HS4.out.laid (s := some ⟨⟨ga, gb, r2, s2, p2⟩, n, said, spoke⟩) hw4z hF8 (fun x hx => by cases hx; exact ⟨HTN.out, fun r hr => by rcases hr with rfl | rfl | rfl | rfl | rfl <;> omega⟩) 0 (by omega))
                    simp only [Slot.pa, Slot.pb, Slot.pr, Option.map_some] at HSP
                    have HF8 := Lib.hid hF8
                    obtain ⟨e0, e1, e2, eF⟩ := (HS4.out.fr hF8).cells 0 (by omega)
                    clear hF5 hF6 hF7 hF8 hC6 hC7 hG6 hG7 hG8 hR8 hz5 hz6 hz7 hga hgb
                    refine wpAnyD_one (i := 20) (by kernel_rfl) rfl (fun KK hKK => ?_)
                    rw [if_pos (by rfl)]
                    go_simp
                    refine hKK.out _ _ (fun h => absurd rfl h) (fun _ => ?_)
                    clear hKK KK
                    try simp only [Act.put, List.setIfInBounds_toArray, List.set_cons_zero, List.set_cons_succ]
                    refine wpAnyD_done (by kernel_rfl) ?_ _
                    clear e0 e1 e2 eF
                    obtain ⟨w9, hw9⟩ : ∃ x, ((w8.setCell ⟨L, 0, none⟩ (.pointer (some ⟨ga, 0, none⟩))).setCell ⟨L, 1, none⟩ (.pointer (some ⟨gb, 0, none⟩))).setCell ⟨L, 2, none⟩ (.pointer (some ⟨r2, 0, none⟩)) = x := ⟨_, rfl⟩
                    have HSP9 := Lib.hid (show Sys n0 L w9 (upd f 0 (some ⟨⟨ga, gb, r2, s2, p2⟩, n, said, spoke⟩)) by rw [← hw9]; exact HSP.out)
                    have hat := HS4.out.at_
                    have HF9 := Lib.hid (show Fr No w w9 by rw [← hw9]; exact fr_put3 (HF4.out.then_ HF8.out) (by rw [HN0.out]; exact hat) _ _ _ _ _ _)
                    have HO9 := Lib.hid (show Bk w9 B 49 [.int .i64 7, .int .i64 on, .int .i64 who, .int .i64 v] by rw [← hw9]; exact (((HO.out.fr HF8.out id).far (p := ⟨L, 0, none⟩) (by simp only; omega) _).far (p := ⟨L, 1, none⟩) (by simp only; omega) _).far (p := ⟨L, 2, none⟩) (by simp only; omega) _)
                    rw [hw9]
                    obtain ⟨c0, c1, c2, cF⟩ := HSP9.out.cells 0 (by omega)
                    rw [upd_same] at c0 c1 c2
                    simp only [Slot.pa, Slot.pb, Slot.pr, Option.map_some] at c0 c1 c2
                    obtain ⟨o0, o1, o2, o3, of_⟩ := HO9.out.four
                    clear hw9 HSP
                    go_wp2_with fail
                    refine (HPJ.out _).mono ?_
                    rintro e wp ⟨rfl, hwp⟩
                    rw [hwp]
                    clear hwp
                    go_wp2_with fail
                    refine (HPJ.out _).mono ?_
                    rintro e wp ⟨rfl, hwp⟩
                    rw [hwp]
                    clear hwp
                    go_wp2
                    go_roundw
                    case rel => exact ⟨i + 1, hwq, by go_num, _, HSP9.out, HF9.out⟩
                    case measure => simp [intOf]; omega
                  · clear hj
                    rw [show (((1 : Nat) : Int)) = 1 from rfl] at HPJ
                    clear o0 o1 o2 o3 of_ hLF
                    have hd : Fr No w4 w4.drew := (Fr.refl _ _).drew
                    have HD := Lib.hid hd
                    refine wp_region_last (S := fun W => Fr No w4 W) (last := 20) (by kernel_rfl) ?_
                    clear hd c0 c1 c2
                    refine wpAnyD_take (i := 0) (v := .pointer (some ⟨B, 3, none⟩)) (some 77) rfl rfl (by kernel_rfl) (by kernel_rfl) (by kernel_rfl) [20] (by kernel_rfl) (by kernel_rfl) (fun _ _ _ h => h) (Or.inl ⟨by rfl, fun W hW => ?_⟩) HD.out ?_
                    · obtain ⟨o0, o1, o2, o3, of_⟩ := (HO.out.fr hW id).four
                      obtain ⟨c0, c1, c2⟩ := HCE.out W hW
                      go_simp
                    try simp only [Act.put, List.setIfInBounds_toArray, List.set_cons_zero, List.set_cons_succ]
                    refine wpAnyD_take (i := 1) (v := .int .i64 v) (some 78) rfl rfl (by kernel_rfl) (by kernel_rfl) (by kernel_rfl) [20] (by kernel_rfl) (by kernel_rfl) (fun _ _ _ h => h) (Or.inl ⟨by rfl, fun W hW => ?_⟩) HD.out ?_
                    · obtain ⟨o0, o1, o2, o3, of_⟩ := (HO.out.fr hW id).four
                      obtain ⟨c0, c1, c2⟩ := HCE.out W hW
                      go_simp
                    try simp only [Act.put, List.setIfInBounds_toArray, List.set_cons_zero, List.set_cons_succ]
                    refine wpAnyD_take (i := 3) (v := .int .i64 2) (some 80) rfl rfl (by kernel_rfl) (by kernel_rfl) (by kernel_rfl) [20] (by kernel_rfl) (by kernel_rfl) (fun _ _ _ h => h) (Or.inl ⟨by rfl, fun W hW => ?_⟩) HD.out ?_
                    · obtain ⟨o0, o1, o2, o3, of_⟩ := (HO.out.fr hW id).four
                      obtain ⟨c0, c1, c2⟩ := HCE.out W hW
                      go_simp
                    try simp only [Act.put, List.setIfInBounds_toArray, List.set_cons_zero, List.set_cons_succ]
                    refine wpAnyD_take (i := 4) (v := .pointer (some ⟨L, 6, none⟩)) (some 81) rfl rfl (by kernel_rfl) (by kernel_rfl) (by kernel_rfl) [20] (by kernel_rfl) (by kernel_rfl) (fun _ _ _ h => h) (Or.inl ⟨by rfl, fun W hW => ?_⟩) HD.out ?_
                    · obtain ⟨o0, o1, o2, o3, of_⟩ := (HO.out.fr hW id).four
                      obtain ⟨c0, c1, c2⟩ := HCE.out W hW
                      go_simp
                    try simp only [Act.put, List.setIfInBounds_toArray, List.set_cons_zero, List.set_cons_succ]
                    refine wpAnyD_take (i := 5) (v := .pointer (some ⟨L, 6, none⟩)) (some 82) rfl rfl (by kernel_rfl) (by kernel_rfl) (by kernel_rfl) [20] (by kernel_rfl) (by kernel_rfl) (fun _ _ _ h => h) (Or.inl ⟨by rfl, fun W hW => ?_⟩) HD.out ?_
                    · obtain ⟨o0, o1, o2, o3, of_⟩ := (HO.out.fr hW id).four
                      obtain ⟨c0, c1, c2⟩ := HCE.out W hW
                      go_simp
                    try simp only [Act.put, List.setIfInBounds_toArray, List.set_cons_zero, List.set_cons_succ]
                    refine wpAnyD_take (i := 6) (v := .pointer (some ⟨ta, 0, none⟩)) (some 83) rfl rfl (by kernel_rfl) (by kernel_rfl) (by kernel_rfl) [20] (by kernel_rfl) (by kernel_rfl) (fun _ _ _ h => h) (Or.inl ⟨by rfl, fun W hW => ?_⟩) HD.out ?_
                    · obtain ⟨o0, o1, o2, o3, of_⟩ := (HO.out.fr hW id).four
                      obtain ⟨c0, c1, c2⟩ := HCE.out W hW
                      go_simp
                    try simp only [Act.put, List.setIfInBounds_toArray, List.set_cons_zero, List.set_cons_succ]
                    refine wpAnyD_take (i := 8) (v := .int .i64 2) (some 85) rfl rfl (by kernel_rfl) (by kernel_rfl) (by kernel_rfl) [20] (by kernel_rfl) (by kernel_rfl) (fun _ _ _ h => h) (Or.inl ⟨by rfl, fun W hW => ?_⟩) HD.out ?_
                    · obtain ⟨o0, o1, o2, o3, of_⟩ := (HO.out.fr hW id).four
                      obtain ⟨c0, c1, c2⟩ := HCE.out W hW
                      go_simp
                    try simp only [Act.put, List.setIfInBounds_toArray, List.set_cons_zero, List.set_cons_succ]
                    refine wpAnyD_take (i := 9) (v := .pointer (some ⟨L, 6, none⟩)) (some 86) rfl rfl (by kernel_rfl) (by kernel_rfl) (by kernel_rfl) [20] (by kernel_rfl) (by kernel_rfl) (fun _ _ _ h => h) (Or.inl ⟨by rfl, fun W hW => ?_⟩) HD.out ?_
                    · obtain ⟨o0, o1, o2, o3, of_⟩ := (HO.out.fr hW id).four
                      obtain ⟨c0, c1, c2⟩ := HCE.out W hW
                      go_simp
                    try simp only [Act.put, List.setIfInBounds_toArray, List.set_cons_zero, List.set_cons_succ]
                    refine wpAnyD_take (i := 10) (v := .pointer (some ⟨L, 7, none⟩)) (some 87) rfl rfl (by kernel_rfl) (by kernel_rfl) (by kernel_rfl) [20] (by kernel_rfl) (by kernel_rfl) (fun _ _ _ h => h) (Or.inl ⟨by rfl, fun W hW => ?_⟩) HD.out ?_
                    · obtain ⟨o0, o1, o2, o3, of_⟩ := (HO.out.fr hW id).four
                      obtain ⟨c0, c1, c2⟩ := HCE.out W hW
                      go_simp
                    try simp only [Act.put, List.setIfInBounds_toArray, List.set_cons_zero, List.set_cons_succ]
                    refine wpAnyD_take (i := 11) (v := .pointer (some ⟨tb, 0, none⟩)) (some 88) rfl rfl (by kernel_rfl) (by kernel_rfl) (by kernel_rfl) [20] (by kernel_rfl) (by kernel_rfl) (fun _ _ _ h => h) (Or.inl ⟨by rfl, fun W hW => ?_⟩) HD.out ?_
                    · obtain ⟨o0, o1, o2, o3, of_⟩ := (HO.out.fr hW id).four
                      obtain ⟨c0, c1, c2⟩ := HCE.out W hW
                      go_simp
                    try simp only [Act.put, List.setIfInBounds_toArray, List.set_cons_zero, List.set_cons_succ]
                    refine wpAnyD_take (i := 13) (v := .int .i64 2) (some 90) rfl rfl (by kernel_rfl) (by kernel_rfl) (by kernel_rfl) [20] (by kernel_rfl) (by kernel_rfl) (fun _ _ _ h => h) (Or.inl ⟨by rfl, fun W hW => ?_⟩) HD.out ?_
                    · obtain ⟨o0, o1, o2, o3, of_⟩ := (HO.out.fr hW id).four
                      obtain ⟨c0, c1, c2⟩ := HCE.out W hW
                      go_simp
                    try simp only [Act.put, List.setIfInBounds_toArray, List.set_cons_zero, List.set_cons_succ]
                    refine wpAnyD_take (i := 14) (v := .pointer (some ⟨L, 6, none⟩)) (some 91) rfl rfl (by kernel_rfl) (by kernel_rfl) (by kernel_rfl) [20] (by kernel_rfl) (by kernel_rfl) (fun _ _ _ h => h) (Or.inl ⟨by rfl, fun W hW => ?_⟩) HD.out ?_
                    · obtain ⟨o0, o1, o2, o3, of_⟩ := (HO.out.fr hW id).four
                      obtain ⟨c0, c1, c2⟩ := HCE.out W hW
                      go_simp
                    try simp only [Act.put, List.setIfInBounds_toArray, List.set_cons_zero, List.set_cons_succ]
                    refine wpAnyD_take (i := 15) (v := .pointer (some ⟨L, 8, none⟩)) (some 92) rfl rfl (by kernel_rfl) (by kernel_rfl) (by kernel_rfl) [20] (by kernel_rfl) (by kernel_rfl) (fun _ _ _ h => h) (Or.inl ⟨by rfl, fun W hW => ?_⟩) HD.out ?_
                    · obtain ⟨o0, o1, o2, o3, of_⟩ := (HO.out.fr hW id).four
                      obtain ⟨c0, c1, c2⟩ := HCE.out W hW
                      go_simp
                    try simp only [Act.put, List.setIfInBounds_toArray, List.set_cons_zero, List.set_cons_succ]
                    refine wpAnyD_take (i := 16) (v := .pointer (some ⟨tr, 0, none⟩)) (some 93) rfl rfl (by kernel_rfl) (by kernel_rfl) (by kernel_rfl) [20] (by kernel_rfl) (by kernel_rfl) (fun _ _ _ h => h) (Or.inl ⟨by rfl, fun W hW => ?_⟩) HD.out ?_
                    · obtain ⟨o0, o1, o2, o3, of_⟩ := (HO.out.fr hW id).four
                      obtain ⟨c0, c1, c2⟩ := HCE.out W hW
                      go_simp
                    try simp only [Act.put, List.setIfInBounds_toArray, List.set_cons_zero, List.set_cons_succ]
                    refine wpAnyD_one (i := 2) (by kernel_rfl) rfl (fun KK hKK => ?_)
                    rw [if_pos (by rfl)]
                    go_simp
                    go_at_call 15
                    refine (HPJ.out _).mono ?_
                    rintro e w5 ⟨rfl, hw5⟩
                    have hF5 : Fr No w4 w5 := by rw [hw5]; exact HD.out
                    clear hw5
                    refine hKK.out _ _ (fun _ => hF5) (fun _ => ?_)
                    clear hKK KK
                    try simp only [Act.put, List.setIfInBounds_toArray, List.set_cons_zero, List.set_cons_succ]
                    refine wpAnyD_one (i := 7) (by kernel_rfl) rfl (fun KK hKK => ?_)
                    rw [if_pos (by rfl)]
                    go_simp
                    go_at_call 16
                    refine (VtI.clone_ ta n (s7 id 0 said spoke) w5 (HTK.out.a.fr hF5 id)).mono ?_
                    rintro e w6 ⟨rfl, hC6, hG6⟩
                    have hF6 : Fr No w4 w6 := hF5.then_ hG6
                    refine hKK.out _ _ (fun _ => hF6) (fun _ => ?_)
                    clear hKK KK
                    try simp only [Act.put, List.setIfInBounds_toArray, List.set_cons_zero, List.set_cons_succ]
                    refine wpAnyD_one (i := 12) (by kernel_rfl) rfl (fun KK hKK => ?_)
                    rw [if_pos (by rfl)]
                    go_simp
                    go_at_call 17
                    refine (VtS.clone_ tb n (s7 textV ByteArray.empty said spoke) w6 (HTK.out.b.fr hF6 id)).mono ?_
                    rintro e w7 ⟨rfl, hC7, hG7⟩
                    have hF7 : Fr No w4 w7 := hF6.then_ hG7
                    refine hKK.out _ _ (fun _ => hF7) (fun _ => ?_)
                    clear hKK KK
                    try simp only [Act.put, List.setIfInBounds_toArray, List.set_cons_zero, List.set_cons_succ]
                    refine wpAnyD_one (i := 17) (by kernel_rfl) rfl (fun KK hKK => ?_)
                    rw [if_pos (by rfl)]
                    go_simp
                    go_at_call 18
                    refine (rClone_ (HTK.out.r.fr hF7 id id id) HTK.out.lo HTK.out.hi).mono ?_
                    rintro e w8 ⟨r2, s2, p2, rfl, hR8, hr2, hs2, hp2, hG8⟩
                    have hF8 : Fr No w4 w8 := hF7.then_ hG8
                    refine hKK.out _ _ (fun _ => hF8) (fun _ => ?_)
                    clear hKK KK
                    try simp only [Act.put, List.setIfInBounds_toArray, List.set_cons_zero, List.set_cons_succ]
                    obtain ⟨ga, hga⟩ : ∃ x, w5.heap.size = x := ⟨_, rfl⟩
                    obtain ⟨gb, hgb⟩ : ∃ x, w6.heap.size = x := ⟨_, rfl⟩
                    rw [hga, hgb]
                    rw [hga] at hC6
                    rw [hgb] at hC7
                    refine wpAnyD_take (i := 18) (v := .agg #[.pointer (some ⟨ga, 0, none⟩), .pointer (some ⟨gb, 0, none⟩), .pointer (some ⟨r2, 0, none⟩)]) (some 95) rfl rfl (by kernel_rfl) (by kernel_rfl) (by kernel_rfl) [20] (by kernel_rfl) (by kernel_rfl) (fun _ _ _ h => h) (Or.inl ⟨by rfl, fun W hW => ?_⟩) hF8 ?_
                    · obtain ⟨o0, o1, o2, o3, of_⟩ := (HO.out.fr hW id).four
                      obtain ⟨c0, c1, c2⟩ := HCE.out W hW
                      go_simp
                    try simp only [Act.put, List.setIfInBounds_toArray, List.set_cons_zero, List.set_cons_succ]
                    refine wpAnyD_take (i := 19) (v := .pointer (some ⟨L, 3, none⟩)) (some 96) rfl rfl (by kernel_rfl) (by kernel_rfl) (by kernel_rfl) [20] (by kernel_rfl) (by kernel_rfl) (fun _ _ _ h => h) (Or.inl ⟨by rfl, fun W hW => ?_⟩) hF8 ?_
                    · obtain ⟨o0, o1, o2, o3, of_⟩ := (HO.out.fr hW id).four
                      obtain ⟨c0, c1, c2⟩ := HCE.out W hW
                      go_simp
                    try simp only [Act.put, List.setIfInBounds_toArray, List.set_cons_zero, List.set_cons_succ]
                    have HTN := Lib.hid (show Th w8 ⟨ga, gb, r2, s2, p2⟩ n said spoke from ⟨(hC6.fr hG7 id).fr hG8 id, hC7.fr hG8 id, hR8, HTK.out.lo, HTK.out.hi⟩)
                    have hz5 := hF5.size
                    have hz6 := hF6.size
                    have hz7 := hF7.size
                    have hw4z : n0 ≤ w4.heap.size := by rw [← HN0.out]; exact HF4.out.size
                    have HSP := Lib.hid (HS4.out.laid (s := some ⟨⟨ga, gb, r2, s2, p2⟩, n, said, spoke⟩) hw4z hF8 (fun x hx => by cases hx; exact ⟨HTN.out, fun r hr => by rcases hr with rfl | rfl | rfl | rfl | rfl <;> omega⟩) 1 (by omega))
                    simp only [Slot.pa, Slot.pb, Slot.pr, Option.map_some] at HSP
                    have HF8 := Lib.hid hF8
                    obtain ⟨e0, e1, e2, eF⟩ := (HS4.out.fr hF8).cells 1 (by omega)
                    clear hF5 hF6 hF7 hF8 hC6 hC7 hG6 hG7 hG8 hR8 hz5 hz6 hz7 hga hgb
                    refine wpAnyD_one (i := 20) (by kernel_rfl) rfl (fun KK hKK => ?_)
                    rw [if_pos (by rfl)]
                    go_simp
                    refine hKK.out _ _ (fun h => absurd rfl h) (fun _ => ?_)
                    clear hKK KK
                    try simp only [Act.put, List.setIfInBounds_toArray, List.set_cons_zero, List.set_cons_succ]
                    refine wpAnyD_done (by kernel_rfl) ?_ _
                    clear e0 e1 e2 eF
                    obtain ⟨w9, hw9⟩ : ∃ x, ((w8.setCell ⟨L, 3, none⟩ (.pointer (some ⟨ga, 0, none⟩))).setCell ⟨L, 4, none⟩ (.pointer (some ⟨gb, 0, none⟩))).setCell ⟨L, 5, none⟩ (.pointer (some ⟨r2, 0, none⟩)) = x := ⟨_, rfl⟩
                    have HSP9 := Lib.hid (show Sys n0 L w9 (upd f 1 (some ⟨⟨ga, gb, r2, s2, p2⟩, n, said, spoke⟩)) by rw [← hw9]; exact HSP.out)
                    have hat := HS4.out.at_
                    have HF9 := Lib.hid (show Fr No w w9 by rw [← hw9]; exact fr_put3 (HF4.out.then_ HF8.out) (by rw [HN0.out]; exact hat) _ _ _ _ _ _)
                    have HO9 := Lib.hid (show Bk w9 B 49 [.int .i64 7, .int .i64 on, .int .i64 who, .int .i64 v] by rw [← hw9]; exact (((HO.out.fr HF8.out id).far (p := ⟨L, 3, none⟩) (by simp only; omega) _).far (p := ⟨L, 4, none⟩) (by simp only; omega) _).far (p := ⟨L, 5, none⟩) (by simp only; omega) _)
                    rw [hw9]
                    obtain ⟨c0, c1, c2, cF⟩ := HSP9.out.cells 1 (by omega)
                    rw [upd_same] at c0 c1 c2
                    simp only [Slot.pa, Slot.pb, Slot.pr, Option.map_some] at c0 c1 c2
                    obtain ⟨o0, o1, o2, o3, of_⟩ := HO9.out.four
                    clear hw9 HSP
                    go_wp2_with fail
                    refine (HPJ.out _).mono ?_
                    rintro e wp ⟨rfl, hwp⟩
                    rw [hwp]
                    clear hwp
                    go_wp2_with fail
                    refine (HPJ.out _).mono ?_
                    rintro e wp ⟨rfl, hwp⟩
                    rw [hwp]
                    clear hwp
                    go_wp2
                    go_roundw
                    case rel => exact ⟨i + 1, hwq, by go_num, _, HSP9.out, HF9.out⟩
                    case measure => simp [intOf]; omega
                  · clear hj
                    rw [show (((2 : Nat) : Int)) = 2 from rfl] at HPJ
                    clear o0 o1 o2 o3 of_ hLF
                    have hd : Fr No w4 w4.drew := (Fr.refl _ _).drew
                    have HD := Lib.hid hd
                    refine wp_region_last (S := fun W => Fr No w4 W) (last := 20) (by kernel_rfl) ?_
                    clear hd c0 c1 c2
                    refine wpAnyD_take (i := 0) (v := .pointer (some ⟨B, 3, none⟩)) (some 77) rfl rfl (by kernel_rfl) (by kernel_rfl) (by kernel_rfl) [20] (by kernel_rfl) (by kernel_rfl) (fun _ _ _ h => h) (Or.inl ⟨by rfl, fun W hW => ?_⟩) HD.out ?_
                    · obtain ⟨o0, o1, o2, o3, of_⟩ := (HO.out.fr hW id).four
                      obtain ⟨c0, c1, c2⟩ := HCE.out W hW
                      go_simp
                    try simp only [Act.put, List.setIfInBounds_toArray, List.set_cons_zero, List.set_cons_succ]
                    refine wpAnyD_take (i := 1) (v := .int .i64 v) (some 78) rfl rfl (by kernel_rfl) (by kernel_rfl) (by kernel_rfl) [20] (by kernel_rfl) (by kernel_rfl) (fun _ _ _ h => h) (Or.inl ⟨by rfl, fun W hW => ?_⟩) HD.out ?_
                    · obtain ⟨o0, o1, o2, o3, of_⟩ := (HO.out.fr hW id).four
                      obtain ⟨c0, c1, c2⟩ := HCE.out W hW
                      go_simp
                    try simp only [Act.put, List.setIfInBounds_toArray, List.set_cons_zero, List.set_cons_succ]
                    refine wpAnyD_take (i := 3) (v := .int .i64 2) (some 80) rfl rfl (by kernel_rfl) (by kernel_rfl) (by kernel_rfl) [20] (by kernel_rfl) (by kernel_rfl) (fun _ _ _ h => h) (Or.inl ⟨by rfl, fun W hW => ?_⟩) HD.out ?_
                    · obtain ⟨o0, o1, o2, o3, of_⟩ := (HO.out.fr hW id).four
                      obtain ⟨c0, c1, c2⟩ := HCE.out W hW
                      go_simp
                    try simp only [Act.put, List.setIfInBounds_toArray, List.set_cons_zero, List.set_cons_succ]
                    refine wpAnyD_take (i := 4) (v := .pointer (some ⟨L, 6, none⟩)) (some 81) rfl rfl (by kernel_rfl) (by kernel_rfl) (by kernel_rfl) [20] (by kernel_rfl) (by kernel_rfl) (fun _ _ _ h => h) (Or.inl ⟨by rfl, fun W hW => ?_⟩) HD.out ?_
                    · obtain ⟨o0, o1, o2, o3, of_⟩ := (HO.out.fr hW id).four
                      obtain ⟨c0, c1, c2⟩ := HCE.out W hW
                      go_simp
                    try simp only [Act.put, List.setIfInBounds_toArray, List.set_cons_zero, List.set_cons_succ]
                    refine wpAnyD_take (i := 5) (v := .pointer (some ⟨L, 6, none⟩)) (some 82) rfl rfl (by kernel_rfl) (by kernel_rfl) (by kernel_rfl) [20] (by kernel_rfl) (by kernel_rfl) (fun _ _ _ h => h) (Or.inl ⟨by rfl, fun W hW => ?_⟩) HD.out ?_
                    · obtain ⟨o0, o1, o2, o3, of_⟩ := (HO.out.fr hW id).four
                      obtain ⟨c0, c1, c2⟩ := HCE.out W hW
                      go_simp
                    try simp only [Act.put, List.setIfInBounds_toArray, List.set_cons_zero, List.set_cons_succ]
                    refine wpAnyD_take (i := 6) (v := .pointer (some ⟨ta, 0, none⟩)) (some 83) rfl rfl (by kernel_rfl) (by kernel_rfl) (by kernel_rfl) [20] (by kernel_rfl) (by kernel_rfl) (fun _ _ _ h => h) (Or.inl ⟨by rfl, fun W hW => ?_⟩) HD.out ?_
                    · obtain ⟨o0, o1, o2, o3, of_⟩ := (HO.out.fr hW id).four
                      obtain ⟨c0, c1, c2⟩ := HCE.out W hW
                      go_simp
                    try simp only [Act.put, List.setIfInBounds_toArray, List.set_cons_zero, List.set_cons_succ]
                    refine wpAnyD_take (i := 8) (v := .int .i64 2) (some 85) rfl rfl (by kernel_rfl) (by kernel_rfl) (by kernel_rfl) [20] (by kernel_rfl) (by kernel_rfl) (fun _ _ _ h => h) (Or.inl ⟨by rfl, fun W hW => ?_⟩) HD.out ?_
                    · obtain ⟨o0, o1, o2, o3, of_⟩ := (HO.out.fr hW id).four
                      obtain ⟨c0, c1, c2⟩ := HCE.out W hW
                      go_simp
                    try simp only [Act.put, List.setIfInBounds_toArray, List.set_cons_zero, List.set_cons_succ]
                    refine wpAnyD_take (i := 9) (v := .pointer (some ⟨L, 6, none⟩)) (some 86) rfl rfl (by kernel_rfl) (by kernel_rfl) (by kernel_rfl) [20] (by kernel_rfl) (by kernel_rfl) (fun _ _ _ h => h) (Or.inl ⟨by rfl, fun W hW => ?_⟩) HD.out ?_
                    · obtain ⟨o0, o1, o2, o3, of_⟩ := (HO.out.fr hW id).four
                      obtain ⟨c0, c1, c2⟩ := HCE.out W hW
                      go_simp
                    try simp only [Act.put, List.setIfInBounds_toArray, List.set_cons_zero, List.set_cons_succ]
                    refine wpAnyD_take (i := 10) (v := .pointer (some ⟨L, 7, none⟩)) (some 87) rfl rfl (by kernel_rfl) (by kernel_rfl) (by kernel_rfl) [20] (by kernel_rfl) (by kernel_rfl) (fun _ _ _ h => h) (Or.inl ⟨by rfl, fun W hW => ?_⟩) HD.out ?_
                    · obtain ⟨o0, o1, o2, o3, of_⟩ := (HO.out.fr hW id).four
                      obtain ⟨c0, c1, c2⟩ := HCE.out W hW
                      go_simp
                    try simp only [Act.put, List.setIfInBounds_toArray, List.set_cons_zero, List.set_cons_succ]
                    refine wpAnyD_take (i := 11) (v := .pointer (some ⟨tb, 0, none⟩)) (some 88) rfl rfl (by kernel_rfl) (by kernel_rfl) (by kernel_rfl) [20] (by kernel_rfl) (by kernel_rfl) (fun _ _ _ h => h) (Or.inl ⟨by rfl, fun W hW => ?_⟩) HD.out ?_
                    · obtain ⟨o0, o1, o2, o3, of_⟩ := (HO.out.fr hW id).four
                      obtain ⟨c0, c1, c2⟩ := HCE.out W hW
                      go_simp
                    try simp only [Act.put, List.setIfInBounds_toArray, List.set_cons_zero, List.set_cons_succ]
                    refine wpAnyD_take (i := 13) (v := .int .i64 2) (some 90) rfl rfl (by kernel_rfl) (by kernel_rfl) (by kernel_rfl) [20] (by kernel_rfl) (by kernel_rfl) (fun _ _ _ h => h) (Or.inl ⟨by rfl, fun W hW => ?_⟩) HD.out ?_
                    · obtain ⟨o0, o1, o2, o3, of_⟩ := (HO.out.fr hW id).four
                      obtain ⟨c0, c1, c2⟩ := HCE.out W hW
                      go_simp
                    try simp only [Act.put, List.setIfInBounds_toArray, List.set_cons_zero, List.set_cons_succ]
                    refine wpAnyD_take (i := 14) (v := .pointer (some ⟨L, 6, none⟩)) (some 91) rfl rfl (by kernel_rfl) (by kernel_rfl) (by kernel_rfl) [20] (by kernel_rfl) (by kernel_rfl) (fun _ _ _ h => h) (Or.inl ⟨by rfl, fun W hW => ?_⟩) HD.out ?_
                    · obtain ⟨o0, o1, o2, o3, of_⟩ := (HO.out.fr hW id).four
                      obtain ⟨c0, c1, c2⟩ := HCE.out W hW
                      go_simp
                    try simp only [Act.put, List.setIfInBounds_toArray, List.set_cons_zero, List.set_cons_succ]
                    refine wpAnyD_take (i := 15) (v := .pointer (some ⟨L, 8, none⟩)) (some 92) rfl rfl (by kernel_rfl) (by kernel_rfl) (by kernel_rfl) [20] (by kernel_rfl) (by kernel_rfl) (fun _ _ _ h => h) (Or.inl ⟨by rfl, fun W hW => ?_⟩) HD.out ?_
                    · obtain ⟨o0, o1, o2, o3, of_⟩ := (HO.out.fr hW id).four
                      obtain ⟨c0, c1, c2⟩ := HCE.out W hW
                      go_simp
                    try simp only [Act.put, List.setIfInBounds_toArray, List.set_cons_zero, List.set_cons_succ]
                    refine wpAnyD_take (i := 16) (v := .pointer (some ⟨tr, 0, none⟩)) (some 93) rfl rfl (by kernel_rfl) (by kernel_rfl) (by kernel_rfl) [20] (by kernel_rfl) (by kernel_rfl) (fun _ _ _ h => h) (Or.inl ⟨by rfl, fun W hW => ?_⟩) HD.out ?_
                    · obtain ⟨o0, o1, o2, o3, of_⟩ := (HO.out.fr hW id).four
                      obtain ⟨c0, c1, c2⟩ := HCE.out W hW
                      go_simp
                    try simp only [Act.put, List.setIfInBounds_toArray, List.set_cons_zero, List.set_cons_succ]
                    refine wpAnyD_one (i := 2) (by kernel_rfl) rfl (fun KK hKK => ?_)
                    rw [if_pos (by rfl)]
                    go_simp
                    go_at_call 15
                    refine (HPJ.out _).mono ?_
                    rintro e w5 ⟨rfl, hw5⟩
                    have hF5 : Fr No w4 w5 := by rw [hw5]; exact HD.out
                    clear hw5
                    refine hKK.out _ _ (fun _ => hF5) (fun _ => ?_)
                    clear hKK KK
                    try simp only [Act.put, List.setIfInBounds_toArray, List.set_cons_zero, List.set_cons_succ]
                    refine wpAnyD_one (i := 7) (by kernel_rfl) rfl (fun KK hKK => ?_)
                    rw [if_pos (by rfl)]
                    go_simp
                    go_at_call 16
                    refine (VtI.clone_ ta n (s7 id 0 said spoke) w5 (HTK.out.a.fr hF5 id)).mono ?_
                    rintro e w6 ⟨rfl, hC6, hG6⟩
                    have hF6 : Fr No w4 w6 := hF5.then_ hG6
                    refine hKK.out _ _ (fun _ => hF6) (fun _ => ?_)
                    clear hKK KK
                    try simp only [Act.put, List.setIfInBounds_toArray, List.set_cons_zero, List.set_cons_succ]
                    refine wpAnyD_one (i := 12) (by kernel_rfl) rfl (fun KK hKK => ?_)
                    rw [if_pos (by rfl)]
                    go_simp
                    go_at_call 17
                    refine (VtS.clone_ tb n (s7 textV ByteArray.empty said spoke) w6 (HTK.out.b.fr hF6 id)).mono ?_
                    rintro e w7 ⟨rfl, hC7, hG7⟩
                    have hF7 : Fr No w4 w7 := hF6.then_ hG7
                    refine hKK.out _ _ (fun _ => hF7) (fun _ => ?_)
                    clear hKK KK
                    try simp only [Act.put, List.setIfInBounds_toArray, List.set_cons_zero, List.set_cons_succ]
                    refine wpAnyD_one (i := 17) (by kernel_rfl) rfl (fun KK hKK => ?_)
                    rw [if_pos (by rfl)]
                    go_simp
                    go_at_call 18
                    refine (rClone_ (HTK.out.r.fr hF7 id id id) HTK.out.lo HTK.out.hi).mono ?_
                    rintro e w8 ⟨r2, s2, p2, rfl, hR8, hr2, hs2, hp2, hG8⟩
                    have hF8 : Fr No w4 w8 := hF7.then_ hG8
                    refine hKK.out _ _ (fun _ => hF8) (fun _ => ?_)
                    clear hKK KK
                    try simp only [Act.put, List.setIfInBounds_toArray, List.set_cons_zero, List.set_cons_succ]
                    obtain ⟨ga, hga⟩ : ∃ x, w5.heap.size = x := ⟨_, rfl⟩
                    obtain ⟨gb, hgb⟩ : ∃ x, w6.heap.size = x := ⟨_, rfl⟩
                    rw [hga, hgb]
                    rw [hga] at hC6
                    rw [hgb] at hC7
                    refine wpAnyD_take (i := 18) (v := .agg #[.pointer (some ⟨ga, 0, none⟩), .pointer (some ⟨gb, 0, none⟩), .pointer (some ⟨r2, 0, none⟩)]) (some 95) rfl rfl (by kernel_rfl) (by kernel_rfl) (by kernel_rfl) [20] (by kernel_rfl) (by kernel_rfl) (fun _ _ _ h => h) (Or.inl ⟨by rfl, fun W hW => ?_⟩) hF8 ?_
                    · obtain ⟨o0, o1, o2, o3, of_⟩ := (HO.out.fr hW id).four
                      obtain ⟨c0, c1, c2⟩ := HCE.out W hW
                      go_simp
                    try simp only [Act.put, List.setIfInBounds_toArray, List.set_cons_zero, List.set_cons_succ]
                    refine wpAnyD_take (i := 19) (v := .pointer (some ⟨L, 6, none⟩)) (some 96) rfl rfl (by kernel_rfl) (by kernel_rfl) (by kernel_rfl) [20] (by kernel_rfl) (by kernel_rfl) (fun _ _ _ h => h) (Or.inl ⟨by rfl, fun W hW => ?_⟩) hF8 ?_
                    · obtain ⟨o0, o1, o2, o3, of_⟩ := (HO.out.fr hW id).four
                      obtain ⟨c0, c1, c2⟩ := HCE.out W hW
                      go_simp
                    try simp only [Act.put, List.setIfInBounds_toArray, List.set_cons_zero, List.set_cons_succ]
                    have HTN := Lib.hid (show Th w8 ⟨ga, gb, r2, s2, p2⟩ n said spoke from ⟨(hC6.fr hG7 id).fr hG8 id, hC7.fr hG8 id, hR8, HTK.out.lo, HTK.out.hi⟩)
                    have hz5 := hF5.size
                    have hz6 := hF6.size
                    have hz7 := hF7.size
                    have hw4z : n0 ≤ w4.heap.size := by rw [← HN0.out]; exact HF4.out.size
                    have HSP := Lib.hid (HS4.out.laid (s := some ⟨⟨ga, gb, r2, s2, p2⟩, n, said, spoke⟩) hw4z hF8 (fun x hx => by cases hx; exact ⟨HTN.out, fun r hr => by rcases hr with rfl | rfl | rfl | rfl | rfl <;> omega⟩) 2 (by omega))
                    simp only [Slot.pa, Slot.pb, Slot.pr, Option.map_some] at HSP
                    have HF8 := Lib.hid hF8
                    obtain ⟨e0, e1, e2, eF⟩ := (HS4.out.fr hF8).cells 2 (by omega)
                    clear hF5 hF6 hF7 hF8 hC6 hC7 hG6 hG7 hG8 hR8 hz5 hz6 hz7 hga hgb
                    refine wpAnyD_one (i := 20) (by kernel_rfl) rfl (fun KK hKK => ?_)
                    rw [if_pos (by rfl)]
                    go_simp
                    refine hKK.out _ _ (fun h => absurd rfl h) (fun _ => ?_)
                    clear hKK KK
                    try simp only [Act.put, List.setIfInBounds_toArray, List.set_cons_zero, List.set_cons_succ]
                    refine wpAnyD_done (by kernel_rfl) ?_ _
                    clear e0 e1 e2 eF
                    obtain ⟨w9, hw9⟩ : ∃ x, ((w8.setCell ⟨L, 6, none⟩ (.pointer (some ⟨ga, 0, none⟩))).setCell ⟨L, 7, none⟩ (.pointer (some ⟨gb, 0, none⟩))).setCell ⟨L, 8, none⟩ (.pointer (some ⟨r2, 0, none⟩)) = x := ⟨_, rfl⟩
                    have HSP9 := Lib.hid (show Sys n0 L w9 (upd f 2 (some ⟨⟨ga, gb, r2, s2, p2⟩, n, said, spoke⟩)) by rw [← hw9]; exact HSP.out)
                    have hat := HS4.out.at_
                    have HF9 := Lib.hid (show Fr No w w9 by rw [← hw9]; exact fr_put3 (HF4.out.then_ HF8.out) (by rw [HN0.out]; exact hat) _ _ _ _ _ _)
                    have HO9 := Lib.hid (show Bk w9 B 49 [.int .i64 7, .int .i64 on, .int .i64 who, .int .i64 v] by rw [← hw9]; exact (((HO.out.fr HF8.out id).far (p := ⟨L, 6, none⟩) (by simp only; omega) _).far (p := ⟨L, 7, none⟩) (by simp only; omega) _).far (p := ⟨L, 8, none⟩) (by simp only; omega) _)
                    rw [hw9]
                    obtain ⟨c0, c1, c2, cF⟩ := HSP9.out.cells 2 (by omega)
                    rw [upd_same] at c0 c1 c2
                    simp only [Slot.pa, Slot.pb, Slot.pr, Option.map_some] at c0 c1 c2
                    obtain ⟨o0, o1, o2, o3, of_⟩ := HO9.out.four
                    clear hw9 HSP
                    go_wp2_with fail
                    refine (HPJ.out _).mono ?_
                    rintro e wp ⟨rfl, hwp⟩
                    rw [hwp]
                    clear hwp
                    go_wp2_with fail
                    refine (HPJ.out _).mono ?_
                    rintro e wp ⟨rfl, hwp⟩
                    rw [hwp]
                    clear hwp
                    go_wp2
                    go_roundw
                    case rel => exact ⟨i + 1, hwq, by go_num, _, HSP9.out, HF9.out⟩
                    case measure => simp [intOf]; omega
                · have d7 : (knd == 7) = false := by rw [beq_eq_false_iff_ne]; exact k7
                  have HSA := Lib.hid (fun W hT => step_any (w := W) (t := ⟨ta, tb, tr, ts, tp⟩) (n := n) (said := said) (spoke := spoke) hT knd on who v HWF.out.1 HWF.out.2)
                  unfold TB.v stepV at HSA
                  clear k7
                  go_upto_region 28 with (fail)
                  go_still_tail 4, (by kernel_rfl)
                  change wpList _ _ _ _ _ w4.drew
                  clear o0 o1 o2 o3 of_ c0 c1 c2 hLF d9 d7
                  have hd : Fr No w4 w4.drew := (Fr.refl _ _).drew
                  have HD := Lib.hid hd
                  clear hd
                  go_wp2_with fail
                  refine (HSA.out w4.drew ((HS4.out.fr HD.out).th 2 _ HFK.out).1).mono ?_
                  rintro e w7 ⟨rfl, ⟨sd, sp, hT7⟩, hF7⟩
                  have HSN := Lib.hid ((HS4.out.fr HD.out).step HFK.out hT7 hF7)
                  have HFN := Lib.hid ((HF4.out.then_ HD.out).trans hF7 (fun r hr hk => by have := (HS4.out.th 2 _ HFK.out).2 r hk; rw [HN0.out] at hr; omega))
                  clear hT7 hF7
                  go_wp2
                  go_roundw
                  case rel => exact ⟨i + 1, hwq, by go_num, _, HSN.out, HFN.out⟩
                  case measure => simp [intOf]; omega
        · obtain rfl : i = q := by omega
          clear hi
          have HS0 := HS
          have HF0 := HF
          clear HS HF HX HW hx hlt
          go_wp2
          go_loopw [17] (fun kv wr => ∃ k : Int, 0 ≤ k ∧ k ≤ 3 ∧ kv = .int .i64 k ∧ Hid (∃ f, Sys n0 L wr f ∧ Fr No w wr)) (fun kv _ => 3 - (intOf kv).toNat)
          case atStart => exact ⟨0, by omega, by omega, rfl, _, HS0.out, HF0.out⟩
          case round =>
            clear HS0 HF0
            obtain ⟨k, hk0, hk, rfl, HSx⟩ := hrel
            obtain ⟨f, hS, hF⟩ := HSx.out
            have HS := Lib.hid hS
            have HF := Lib.hid hF
            clear hS hF HSx
            by_cases hlt : k < 3
            · obtain rfl | rfl | rfl : k = 0 ∨ k = 1 ∨ k = 2 := by omega
              · clear hk0 hk hlt
                obtain ⟨c0, c1, c2, hLF⟩ := HS.out.cells 0 (by omega)
                rcases hfk : f 0 with _ | x
                · rw [hfk] at c0 c1 c2
                  clear hfk
                  go_wp2
                  go_roundw
                  case rel => exact ⟨1, by omega, by omega, rfl, _, HS.out, HF.out⟩
                  case measure => simp [intOf]
                · rw [hfk] at c0 c1 c2
                  have HFK := Lib.hid hfk
                  clear hfk
                  obtain ⟨⟨ta, tb, tr, ts, tp⟩, n, said, spoke⟩ := x
                  simp only [Slot.pa, Slot.pb, Slot.pr, Option.map_some] at c0 c1 c2
                  have HAL := Lib.hid (show Calls Try.prog 20 #[.agg #[.pointer (some ⟨ta, 0, none⟩), .pointer (some ⟨tb, 0, none⟩), .pointer (some ⟨tr, 0, none⟩)], .int .i64 9] wr fun e w' => e = .returned (.bool true) ∧ Fr No wr w' from thAll (HS.out.th 0 _ HFK.out).1 9 (by omega) (by omega))
                  go_wp2_with fail
                  refine HAL.out.mono ?_
                  rintro e w3 ⟨rfl, hF3⟩
                  have HF3 := Lib.hid hF3
                  clear hF3 c0 c1 c2 hLF
                  go_wp2
                  go_roundw
                  case rel => exact ⟨1, by omega, by omega, rfl, _, HS.out.fr HF3.out, HF.out.then_ HF3.out⟩
                  case measure => simp [intOf]
              · clear hk0 hk hlt
                obtain ⟨c0, c1, c2, hLF⟩ := HS.out.cells 1 (by omega)
                rcases hfk : f 1 with _ | x
                · rw [hfk] at c0 c1 c2
                  clear hfk
                  go_wp2
                  go_roundw
                  case rel => exact ⟨2, by omega, by omega, rfl, _, HS.out, HF.out⟩
                  case measure => simp [intOf]
                · rw [hfk] at c0 c1 c2
                  have HFK := Lib.hid hfk
                  clear hfk
                  obtain ⟨⟨ta, tb, tr, ts, tp⟩, n, said, spoke⟩ := x
                  simp only [Slot.pa, Slot.pb, Slot.pr, Option.map_some] at c0 c1 c2
                  have HAL := Lib.hid (show Calls Try.prog 20 #[.agg #[.pointer (some ⟨ta, 0, none⟩), .pointer (some ⟨tb, 0, none⟩), .pointer (some ⟨tr, 0, none⟩)], .int .i64 9] wr fun e w' => e = .returned (.bool true) ∧ Fr No wr w' from thAll (HS.out.th 1 _ HFK.out).1 9 (by omega) (by omega))
                  go_wp2_with fail
                  refine HAL.out.mono ?_
                  rintro e w3 ⟨rfl, hF3⟩
                  have HF3 := Lib.hid hF3
                  clear hF3 c0 c1 c2 hLF
                  go_wp2
                  go_roundw
                  case rel => exact ⟨2, by omega, by omega, rfl, _, HS.out.fr HF3.out, HF.out.then_ HF3.out⟩
                  case measure => simp [intOf]
              · clear hk0 hk hlt
                obtain ⟨c0, c1, c2, hLF⟩ := HS.out.cells 2 (by omega)
                rcases hfk : f 2 with _ | x
                · rw [hfk] at c0 c1 c2
                  clear hfk
                  go_wp2
                  go_roundw
                  case rel => exact ⟨3, by omega, by omega, rfl, _, HS.out, HF.out⟩
                  case measure => simp [intOf]
                · rw [hfk] at c0 c1 c2
                  have HFK := Lib.hid hfk
                  clear hfk
                  obtain ⟨⟨ta, tb, tr, ts, tp⟩, n, said, spoke⟩ := x
                  simp only [Slot.pa, Slot.pb, Slot.pr, Option.map_some] at c0 c1 c2
                  have HAL := Lib.hid (show Calls Try.prog 20 #[.agg #[.pointer (some ⟨ta, 0, none⟩), .pointer (some ⟨tb, 0, none⟩), .pointer (some ⟨tr, 0, none⟩)], .int .i64 9] wr fun e w' => e = .returned (.bool true) ∧ Fr No wr w' from thAll (HS.out.th 2 _ HFK.out).1 9 (by omega) (by omega))
                  go_wp2_with fail
                  refine HAL.out.mono ?_
                  rintro e w3 ⟨rfl, hF3⟩
                  have HF3 := Lib.hid hF3
                  clear hF3 c0 c1 c2 hLF
                  go_wp2
                  go_roundw
                  case rel => exact ⟨3, by omega, by omega, rfl, _, HS.out.fr HF3.out, HF.out.then_ HF3.out⟩
                  case measure => simp [intOf]
            · obtain rfl : k = 3 := by omega
              clear hk0 hk hlt
              go_wp2
              go_ret
              exact ⟨rfl, HF.out⟩
end Go.Proofs.Ytobnehbcnlhchaa.Vt
