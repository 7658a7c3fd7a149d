/- What the laws on seals look with: same, copied, lent, still. Conditions: none. -/
import Derived.Test.YtfpjdgkooikeoaaDoorSealD
import Derived.StillTailTactics
import Derived.Deep.RegionLaw
import Derived.Deep.RegionHeld3
namespace Go.Proofs.YtfpjdgkooikeoaaDoor.Sl
open Go.RowKit Go.Proofs.YtfpjdgkooikeoaaDoor.Mem
set_option linter.unusedVariables false
set_option linter.unusedSimpArgs false

theorem take_ext {x y : List UInt8} {k : Nat} (hx : k < x.length) (hy : k < y.length) (h : x.take k = y.take k) (he : x[k] = y[k]) : x.take (k + 1) = y.take (k + 1) := by
  rw [List.take_succ_eq_append_getElem hx, List.take_succ_eq_append_getElem hy, h, he]
theorem u8_ne {a b : UInt8} : ((a.toNat : Int) == (b.toNat : Int)) = decide (a = b) := by
  rw [Bool.eq_iff_iff]
  simp [UInt8.toNat_inj]
  constructor
  · intro h; exact UInt8.toNat_inj.1 (by omega)
  · rintro rfl; rfl
theorem same (A B : Option Addr) (n m c d : Nat) (x y : List UInt8) (w : World) (hx : BR Any w A x) (hy : BR Any w B y) (hn : x.length = n) (hm : y.length = m) (hl : n ≤ 4611686018427387904) (hl2 : m ≤ 4611686018427387904) :
    Calls Tryd.prog 19 #[.slice A n c, .slice B m d] w fun e w' => e = .returned (.bool (decide (x = y))) ∧ Fr No w w' := by
  have HX := Lib.hid hx
  have HY := Lib.hid hy
  have HN := Lib.hid hn
  have HM := Lib.hid hm
  clear hx hy
  by_cases hnm : n = m
  · subst hnm
    clear hn hm
    go_enter Tryd.func19, Tryd.ntmps19
    go_wp2
    go_loopw [5] (fun i wr => ∃ k : Nat, k ≤ n ∧ i = .int .i64 k ∧ Hid (x.take k = y.take k) ∧ Fr No w wr) (fun i _ => n - (intOf i).toNat)
    case atStart => exact ⟨0, Nat.zero_le _, rfl, by show _ = _; simp, Fr.refl _ _⟩
    case round =>
      obtain ⟨k, hk, rfl, HE, hF⟩ := hrel
      by_cases hlt : k < n
      · have hkx : k < x.length := by rw [HN.out]; exact hlt
        have hky : k < y.length := by rw [HM.out]; exact hlt
        obtain ⟨ad, rfl, ca⟩ := (HX.out.fr hF (fun _ _ _ q => q)).at_ k hkx
        obtain ⟨bd, rfl, cb⟩ := (HY.out.fr hF (fun _ _ _ q => q)).at_ k hky
        have hki : (k : Int) < (n : Int) := by omega
        have hw : IntKind.i64.wrap ((k : Int) + 1) = (k : Int) + 1 := IntWalk.i64_in _ (by omega)
        have HT := Lib.hid (take_ext hkx hky HE.out)
        have HXY := Lib.hid (show x = y → x[k] = y[k] from fun h => by subst h; rfl)
        generalize x[k] = xa at *
        generalize y[k] = yb at *
        by_cases he : xa = yb
        · subst he
          have HT2 := Lib.hid (HT.out rfl)
          have d1 : decide ((k : Int) < (n : Int)) = true := decide_eq_true hki
          clear HT HE HXY
          go_wp2
          go_quiet (fail)
          go_wp2
          go_roundw
          case rel => exact ⟨k + 1, by omega, by go_num, HT2, hF.drewN _⟩
          case measure => simp [intOf]; omega
        · have hb : ((xa.toNat : Int) == (yb.toNat : Int)) = false := by rw [u8_ne]; simpa using he
          have hb2 : ((xa.toNat : Int) != (yb.toNat : Int)) = true := by rw [bne, hb]; rfl
          have HR : Hid (decide (x = y) = false) := decide_eq_false (fun h => he (HXY.out h))
          clear HT HE HXY he
          go_wp2
          go_quiet (fail)
          go_wp2
          go_ret
          exact ⟨by rw [HR.out]; rfl, hF.drewN _⟩
      · obtain rfl : k = n := by omega
        have HR : Hid (decide (x = y) = true) := decide_eq_true (by have := HE.out; rwa [List.take_of_length_le (Nat.le_of_eq HN.out), List.take_of_length_le (Nat.le_of_eq HM.out)] at this)
        clear HE
        go_wp2
        go_ret
        exact ⟨by rw [HR.out]; rfl, hF⟩
  · have hb : ((n : Int) == (m : Int)) = false := by simp; omega
    have hb2 : ((n : Int) != (m : Int)) = true := by simp; omega
    have HR : Hid (decide (x = y) = false) := decide_eq_false (fun h => hnm (by rw [← hn, ← hm, h]))
    clear hn hm
    go_enter Tryd.func19, Tryd.ntmps19
    go_wp2
    go_ret
    exact ⟨by rw [HR.out]; rfl, Fr.refl _ _⟩
/-- bytes of their own, as the laws make them -/
theorem copiedL (A : Option Addr) (n c : Nat) (l : List UInt8) (w : World) (hl : l.length = n) (hn : n ≤ 140737488355328) (hA : BR Any w A l) :
    Calls Tryd.prog 20 #[.slice A n c] w fun e w' => ∃ A' c' rb, e = .returned (.slice A' n c') ∧ Row w' 5 1 rb (.slice A' n c') n (bv l) ∧ Fr No w w' ∧ (∀ k, rb = some k → w.heap.size ≤ k) := by
  have HL := Lib.hid hl
  have hF : Fr No w (w.alloc (.cells #[] 5 (0, 0))) := (Fr.refl _ _).alloc _
  have HC := Lib.hid (show 0 < n → ∃ ad, A = some ad ∧ ∀ j u, (bv l)[j]? = some u → (w.alloc (.cells #[] 5 (0, 0))).cell? (ad.add j) = some u from fun h => (hA.fr hF (fun _ _ _ q => q)).cells (by omega))
  have HF := Lib.hid hF
  clear hl hA hF
  go_enter Tryd.func20, Tryd.ntmps20
  go_wp2_with (at_builtin; refine wl_append _ rfl (.tmp 5) (.tmp 6) 22 rfl 5 _ 1 1 Tryd.underlying22 info8 rfl (by decide) none _ 0 [] rfl (Row.no _ _ _ _) A n c (bv l) rfl (by rw [bv_len, HL.out, Nat.mul_one]) HC.out (bv_one l) (by unfold maxLen; omega) (by omega) ?_; intro A' c' w1 rb' hrow1 hF1 hnb1)
  rw [Nat.zero_add, List.nil_append] at hrow1
  go_ret
  refine ⟨A', c', rb', rfl, hrow1, HF.out.trans hF1 (fun q _ h => by cases h), fun k hk => ?_⟩
  rcases hnb1 with h | ⟨q, h, hq⟩
  · rw [h] at hk; cases hk
  · rw [h] at hk
    cases hk
    have := HF.out.size
    omega
theorem Row.br {D : Nat → Prop} {w : World} {rb : Option Nat} {A : Option Addr} {n c : Nat} {l : List UInt8} {e : Nat} (h : Row w e 1 rb (.slice A n c) n (bv l)) (hd : ∀ k, rb = some k → D k) : BR D w A l := fun j u hj => by
  have hl := h.len
  rw [bv_len, Nat.mul_one] at hl
  have hj' := (List.getElem?_eq_some_iff.1 hj).1
  obtain ⟨g, c', hr, hv, _, hc, _⟩ := h.at_ (by omega)
  injection hv with e1
  refine ⟨_, e1, hd g hr, ?_⟩
  rw [add0]
  exact hc j _ (by simp [bv, hj])

/-- the eight marks -/
def A5 (k : Nat) : List UInt8 := List.replicate k 0xA5
set_option maxHeartbeats 1000000 in
theorem lent (A : Option Addr) (n c : Nat) (l : List UInt8) (w : World) (hl : l.length = n) (hn : n ≤ 140737488351300) (hA : BR Any w A l) :
    Calls Tryd.prog 12 #[.slice A n c] w fun e w' => ∃ A' c' rb, e = .returned (.slice A' (n + 8) c') ∧ Row w' 5 1 rb (.slice A' (n + 8) c') (n + 8) (bv (l ++ A5 8)) ∧ Fr No w w' ∧ (∀ k, rb = some k → w.heap.size ≤ k) := by
  have HC := Lib.hid (copiedL A n c l w hl (by omega) hA)
  clear hl hA
  go_enter Tryd.func12, Tryd.ntmps12
  go_wp2_with fail
  refine HC.out.mono ?_
  rintro e w1 ⟨A1, c1, rb1, rfl, hr1, hF1, hn1⟩
  have HR1 := Lib.hid (show Row w1 5 1 rb1 (.slice A1 (n + 0) c1) (n + 0) (bv (l ++ A5 0)) by simpa [A5] using hr1)
  have HF1 := Lib.hid hF1
  have HN1 := Lib.hid hn1
  clear hr1 hF1 hn1 HC
  go_wp2
  go_loopw [3, 4] (fun b i wr => ∃ (k : Nat) (A' : Option Addr) (c' : Nat) (rb : Option Nat), k ≤ 8 ∧ i = .int .i64 k ∧ b = .slice A' (n + k) c' ∧ Hid (Row wr 5 1 rb (.slice A' (n + k) c') (n + k) (bv (l ++ A5 k))) ∧ Hid (Fr No w wr) ∧ Hid (∀ q, rb = some q → w.heap.size ≤ q)) (fun _ i _ => 8 - (intOf i).toNat)
  case atStart => exact ⟨0, A1, c1, rb1, by omega, rfl, rfl, HR1, HF1, HN1⟩
  case round =>
    clear HR1 HF1 HN1
    obtain ⟨k, A', c', rb, hk, rfl, rfl, HR, HF, HN⟩ := hrel
    by_cases hlt : k < 8
    · have hF2 : Fr No wr (wr.alloc (.cells #[.int .u8 165] 5 (0, 0))) := (Fr.refl _ _).alloc _
      have HR2 := Lib.hid (HR.out.fr hF2 (fun _ _ q => q))
      have HF2 := Lib.hid (HF.out.then_ hF2)
      have HNEW := Lib.hid (fun (_ : 0 < 1) => show ∃ ad, some (⟨wr.heap.size, 0, none⟩ : Addr) = some ad ∧ ∀ (j : Nat) (u : Value), [Value.int .u8 165][j]? = some u → (wr.alloc (.cells #[.int .u8 165] 5 (0, 0))).cell? (ad.add j) = some u from
        ⟨_, rfl, fun j u hj => by rw [add0]; exact ((Bk.new wr 5 [Value.int .u8 165]).cell j).trans hj⟩)
      have hki : (k : Int) < 8 := by omega
      have d0 : decide ((k : Int) < 8) = true := decide_eq_true hki
      have hw : IntKind.i64.wrap ((k : Int) + 1) = (k : Int) + 1 := IntWalk.i64_in _ (by omega)
      clear hF2 HR HF
      go_wp2_with (at_builtin; refine wl_append _ rfl (.tmp 11) (.tmp 12) 22 rfl 5 _ 1 1 Tryd.underlying22 info8 rfl (by decide) rb _ (n + k) (bv (l ++ A5 k)) rfl HR2.out (some ⟨wr.heap.size, 0, none⟩) 1 1 [Value.int .u8 165] rfl rfl HNEW.out (by simp [Value.oneCell']) (by unfold maxLen; omega) (by omega) ?_; intro A6 c6 w6 rb6 hrow6 hF7 hnb6)
      have HR3 := Lib.hid (show Row w6 5 1 rb6 (.slice A6 (n + (k + 1)) c6) (n + (k + 1)) (bv (l ++ A5 (k + 1))) by
        rw [show bv (l ++ A5 (k + 1)) = bv (l ++ A5 k) ++ [Value.int .u8 165] by unfold A5; rw [List.replicate_succ', ← List.append_assoc, bv_append]; rfl]
        exact hrow6)
      have HF3 := Lib.hid (HF2.out.trans hF7 (fun q hq hk => by have := HN.out q hk; omega))
      have HN3 : Hid (∀ q, rb6 = some q → w.heap.size ≤ q) := fun q hq => by
        rcases hnb6 with h | ⟨q', h, hle⟩
        · exact HN.out q (by rw [← h]; exact hq)
        · rw [h] at hq
          cases hq
          exact Nat.le_trans HF2.out.size hle
      clear hrow6 hF7 hnb6 HR2 HF2 HNEW
      go_wp2
      go_roundw
      case rel => exact ⟨k + 1, A6, c6, rb6, by omega, by go_num, rfl, HR3, HF3, HN3⟩
      case measure => simp [intOf]; omega
    · obtain rfl : k = 8 := by omega
      go_wp2
      go_ret
      exact ⟨A', c', rb, rfl, HR.out, HF.out, HN.out⟩
set_option maxHeartbeats 1000000 in
theorem still (A B : Option Addr) (n c d : Nat) (l : List UInt8) (w : World) (hl : l.length = n) (hn : n ≤ 140737488351300) (hA : BR Any w A (l ++ A5 8)) (hB : BR Any w B l) :
    Calls Tryd.prog 15 #[.slice A (n + 8) c, .slice B n d] w fun e w' => e = .returned (.bool true) ∧ Fr No w w' := by
  have HA := Lib.hid hA
  have HB := Lib.hid hB
  have HL := Lib.hid hl
  have hw8 : IntKind.i64.wrap ((n : Int) + 8) = (n : Int) + 8 := IntWalk.i64_in _ (by omega)
  clear hA hB hl
  go_enter Tryd.func15, Tryd.ntmps15
  go_wp2
  go_loopw [5] (fun i wr => ∃ k : Nat, k ≤ n + 8 ∧ i = .int .i64 k ∧ Hid (Fr No w wr)) (fun i _ => n + 8 - (intOf i).toNat)
  case atStart => exact ⟨0, Nat.zero_le _, rfl, Fr.refl _ _⟩
  case round =>
    obtain ⟨k, hk, rfl, HF⟩ := hrel
    have hw : IntKind.i64.wrap ((k : Int) + 1) = (k : Int) + 1 := IntWalk.i64_in _ (by omega)
    by_cases hlt : k < n
    · obtain ⟨ad, rfl, ca⟩ := (HA.out.fr HF.out (fun _ _ _ q => q)).at_ k (by rw [List.length_append, HL.out]; omega)
      obtain ⟨bd, rfl, cb⟩ := (HB.out.fr HF.out (fun _ _ _ q => q)).at_ k (by rw [HL.out]; omega)
      rw [List.getElem_append_left (by rw [HL.out]; omega)] at ca
      have hkl : k < l.length := by rw [HL.out]; exact hlt
      obtain ⟨x, hx⟩ : ∃ x, l[k] = x := ⟨_, rfl⟩
      rw [hx] at ca cb
      clear hx hkl
      have d0 : decide ((k : Int) < (n : Int) + 8) = true := decide_eq_true (by omega)
      have d1 : decide ((k : Int) < (n : Int)) = true := decide_eq_true (by omega)
      have d2 : decide ((n : Int) ≤ (k : Int)) = false := decide_eq_false (by omega)
      have d2' : decide (n ≤ k) = false := decide_eq_false (by omega)
      have d1' : decide (k < n) = true := decide_eq_true (by omega)
      have h1 : (k : Int) < (n : Int) := by omega
      have h2 : (k : Int) < (n : Int) + 8 := by omega
      have e0 : ((x.toNat : Int) != (x.toNat : Int)) = false := by simp
      generalize x.toNat = X at *
      go_wp2
      go_quiet (fail)
      go_wp2
      go_roundw
      case rel => exact ⟨k + 1, by omega, by go_num, HF.out.drewN _⟩
      case measure => simp [intOf]; omega
    · by_cases hlt2 : k < n + 8
      · obtain ⟨ad, rfl, ca⟩ := (HA.out.fr HF.out (fun _ _ _ q => q)).at_ k (by rw [List.length_append, HL.out]; simp [A5]; omega)
        have hx : (l ++ A5 8)[k]'(by rw [List.length_append, HL.out]; simp [A5]; omega) = 165 := by
          rw [List.getElem_append_right (by rw [HL.out]; omega)]
          simp only [A5, List.getElem_replicate]
        rw [hx] at ca
        have ca' : wr.cell? (ad.add k) = some (.int .u8 165) := ca
        have d0 : decide ((k : Int) < (n : Int) + 8) = true := decide_eq_true (by omega)
        have d1 : decide ((k : Int) < (n : Int)) = false := decide_eq_false (by omega)
        have d2 : decide ((n : Int) ≤ (k : Int)) = true := decide_eq_true (by omega)
        have d2' : decide (n ≤ k) = true := decide_eq_true (by omega)
        have d1' : decide (k < n) = false := decide_eq_false (by omega)
        have h2 : (k : Int) < (n : Int) + 8 := by omega
        clear ca hx
        go_wp2
        go_quiet (fail)
        go_wp2
        go_roundw
        case rel => exact ⟨k + 1, by omega, by go_num, HF.out.drewN _⟩
        case measure => simp [intOf]; omega
      · obtain rfl : k = n + 8 := by omega
        go_wp2
        go_ret
        exact ⟨rfl, HF.out⟩
end Go.Proofs.YtfpjdgkooikeoaaDoor.Sl
