/- What the laws on bags look with: same, samePacket, samePackets, nearly, copied. Conditions: none. -/
import Derived.Test.YtilpffolldegbaaBagI
namespace Go.Proofs.Ytilpffolldegbaa.Bg
open Go.RowKit Go.Proofs.Ytilpffolldegbaa.Mem
set_option linter.unusedVariables false
set_option linter.unusedSimpArgs false

theorem take_ext {x y : List UInt8} {k : Nat} (hx : k < x.length) (hy : k < y.length) (h : x.take k = y.take k) (he : x[k] = y[k]) : x.take (k + 1) = y.take (k + 1) := by
  rw [List.take_succ_eq_append_getElem hx, List.take_succ_eq_append_getElem hy, h, he]
theorem u8_ne {a b : UInt8} : ((a.toNat : Int) == (b.toNat : Int)) = decide (a = b) := by
  rw [Bool.eq_iff_iff]
  simp [UInt8.toNat_inj]
  constructor
  · intro h; exact UInt8.toNat_inj.1 (by omega)
  · rintro rfl; rfl
theorem same (A B : Option Addr) (n m c d : Nat) (x y : List UInt8) (w : World) (hx : BR Any w A x) (hy : BR Any w B y) (hn : x.length = n) (hm : y.length = m) (hl : n ≤ 4611686018427387904) (hl2 : m ≤ 4611686018427387904) :
    Calls Try.prog 13 #[.slice A n c, .slice B m d] w fun e w' => e = .returned (.bool (decide (x = y))) ∧ Fr No w w' := by
  have HX := Lib.hid hx
  have HY := Lib.hid hy
  have HN := Lib.hid hn
  have HM := Lib.hid hm
  clear hx hy
  by_cases hnm : n = m
  · subst hnm
    clear hn hm
    go_enter Try.func13, Try.ntmps13
    go_wp2
    go_loopw [5] (fun i wr => ∃ k : Nat, k ≤ n ∧ i = .int .i64 k ∧ Hid (x.take k = y.take k) ∧ Fr No w wr) (fun i _ => n - (intOf i).toNat)
    case atStart => exact ⟨0, Nat.zero_le _, rfl, by show _ = _; simp, Fr.refl _ _⟩
    case round =>
      obtain ⟨k, hk, rfl, HE, hF⟩ := hrel
      by_cases hlt : k < n
      · have hkx : k < x.length := by rw [HN.out]; exact hlt
        have hky : k < y.length := by rw [HM.out]; exact hlt
        obtain ⟨ad, rfl, ca⟩ := (HX.out.fr hF (fun _ _ _ q => q)).at_ k hkx
        obtain ⟨bd, rfl, cb⟩ := (HY.out.fr hF (fun _ _ _ q => q)).at_ k hky
        have hki : (k : Int) < (n : Int) := by omega
        have hw : IntKind.i64.wrap ((k : Int) + 1) = (k : Int) + 1 := IntWalk.i64_in _ (by omega)
        have HT := Lib.hid (take_ext hkx hky HE.out)
        have HXY := Lib.hid (show x = y → x[k] = y[k] from fun h => by subst h; rfl)
        generalize x[k] = xa at *
        generalize y[k] = yb at *
        by_cases he : xa = yb
        · subst he
          have HT2 := Lib.hid (HT.out rfl)
          have d1 : decide ((k : Int) < (n : Int)) = true := decide_eq_true hki
          clear HT HE HXY
          go_wp2
          go_quiet (fail)
          go_wp2
          go_roundw
          case rel => exact ⟨k + 1, by omega, by go_num, HT2, hF.drewN _⟩
          case measure => simp [intOf]; omega
        · have hb : ((xa.toNat : Int) == (yb.toNat : Int)) = false := by rw [u8_ne]; simpa using he
          have hb2 : ((xa.toNat : Int) != (yb.toNat : Int)) = true := by rw [bne, hb]; rfl
          have HR : Hid (decide (x = y) = false) := decide_eq_false (fun h => he (HXY.out h))
          clear HT HE HXY he
          go_wp2
          go_quiet (fail)
          go_wp2
          go_ret
          exact ⟨by rw [HR.out]; rfl, hF.drewN _⟩
      · obtain rfl : k = n := by omega
        have HR : Hid (decide (x = y) = true) := decide_eq_true (by have := HE.out; rwa [List.take_of_length_le (Nat.le_of_eq HN.out), List.take_of_length_le (Nat.le_of_eq HM.out)] at this)
        clear HE
        go_wp2
        go_ret
        exact ⟨by rw [HR.out]; rfl, hF⟩
  · have hb : ((n : Int) == (m : Int)) = false := by simp; omega
    have hb2 : ((n : Int) != (m : Int)) = true := by simp; omega
    have HR : Hid (decide (x = y) = false) := decide_eq_false (fun h => hnm (by rw [← hn, ← hm, h]))
    clear hn hm
    go_enter Try.func13, Try.ntmps13
    go_wp2
    go_ret
    exact ⟨by rw [HR.out]; rfl, Fr.refl _ _⟩
/-- bytes of their own, as the laws make them -/
theorem copiedL (A : Option Addr) (n c : Nat) (l : List UInt8) (w : World) (hl : l.length = n) (hn : n ≤ 140737488355328) (hA : BR Any w A l) :
    Calls Try.prog 21 #[.slice A n c] w fun e w' => ∃ A' c' rb, e = .returned (.slice A' n c') ∧ Row w' 5 1 rb (.slice A' n c') n (bv l) ∧ Fr No w w' ∧ (∀ k, rb = some k → w.heap.size ≤ k) := by
  have HL := Lib.hid hl
  have hF : Fr No w (w.alloc (.cells #[] 5 (0, 0))) := (Fr.refl _ _).alloc _
  have HC := Lib.hid (show 0 < n → ∃ ad, A = some ad ∧ ∀ j u, (bv l)[j]? = some u → (w.alloc (.cells #[] 5 (0, 0))).cell? (ad.add j) = some u from fun h => (hA.fr hF (fun _ _ _ q => q)).cells (by omega))
  have HF := Lib.hid hF
  clear hl hA hF
  go_enter Try.func21, Try.ntmps21
  go_wp2_with (at_builtin; refine wl_append _ rfl (.tmp 5) (.tmp 6) 22 rfl 5 _ 1 1 Try.underlying22 info8 rfl (by decide) none _ 0 [] rfl (Row.no _ _ _ _) A n c (bv l) rfl (by rw [bv_len, HL.out, Nat.mul_one]) HC.out (bv_one l) (by unfold maxLen; omega) (by omega) ?_; intro A' c' w1 rb' hrow1 hF1 hnb1)
  rw [Nat.zero_add, List.nil_append] at hrow1
  go_ret
  refine ⟨A', c', rb', rfl, hrow1, HF.out.trans hF1 (fun q _ h => by cases h), fun k hk => ?_⟩
  rcases hnb1 with h | ⟨q, h, hq⟩
  · rw [h] at hk; cases hk
  · rw [h] at hk
    cases hk
    have := HF.out.size
    omega
theorem Row.br {D : Nat → Prop} {w : World} {rb : Option Nat} {A : Option Addr} {n c : Nat} {l : List UInt8} {e : Nat} (h : Row w e 1 rb (.slice A n c) n (bv l)) (hd : ∀ k, rb = some k → D k) : BR D w A l := fun j u hj => by
  have hl := h.len
  rw [bv_len, Nat.mul_one] at hl
  have hj' := (List.getElem?_eq_some_iff.1 hj).1
  obtain ⟨g, c', hr, hv, _, hc, _⟩ := h.at_ (by omega)
  injection hv with e1
  refine ⟨_, e1, hd g hr, ?_⟩
  rw [add0]
  exact hc j _ (by simp [bv, hj])

/-- a packet's bytes are these, but for the one that was turned -/
def Near (p : Pk) (l : List UInt8) : Prop := p.data.length = l.length ∧ 0 ≤ p.turned ∧ p.turned ≤ (l.length : Int) ∧ ∀ (i : Nat) (u v : UInt8), p.data[i]? = some u → l[i]? = some v → u = v ∨ (i : Int) = p.turned - 1
set_option maxHeartbeats 400000 in
theorem nearly (p : Pk) (A B : Option Addr) (cap d : Nat) (l : List UInt8) (w : World) (hA : BR Any w A p.data) (hB : BR Any w B l) (hl : l.length ≤ 4611686018427387904) (hN : Near p l) :
    Calls Try.prog 14 #[.agg (p.cells A cap).toArray, .slice B l.length d] w fun e w' => e = .returned (.bool true) ∧ Fr No w w' := by
  obtain ⟨num, fr, to, age, turned, data⟩ := p
  obtain ⟨h1, h2, h3, h4⟩ := hN
  unfold Pk.cells
  dsimp only at *
  obtain ⟨w1, hw1⟩ : ∃ w1, w.alloc (.cells #[.int .i64 num, .int .i64 fr, .int .i64 to, .int .i64 age, .int .i64 turned, .slice A data.length cap] 31 (0, 0)) = w1 := ⟨_, rfl⟩
  have hF : Fr No w w1 := by rw [← hw1]; exact (Fr.refl _ _).alloc _
  have hx : Bk w1 w.heap.size 31 [.int .i64 num, .int .i64 fr, .int .i64 to, .int .i64 age, .int .i64 turned, .slice A data.length cap] := by rw [← hw1]; exact Bk.new _ _ _
  have HA := Lib.hid (hA.fr hF (fun _ _ _ q => q))
  have HB := Lib.hid (hB.fr hF (fun _ _ _ q => q))
  have H4 := Lib.hid h4
  obtain ⟨n, hn⟩ : ∃ n, l.length = n := ⟨_, rfl⟩
  have HN := Lib.hid hn
  have HD := Lib.hid (h1.trans hn)
  rw [h1, hn] at hx hw1
  rw [hn] at h3 hl
  obtain ⟨x0, x1, x2, x3, x4, x5, xf⟩ := hx.six
  have HX := Lib.hid hx
  have HF := Lib.hid hF
  have HW := Lib.hid hw1
  have d1 : decide (turned < 0) = false := decide_eq_false (by omega)
  have d2 : decide ((n : Int) < turned) = false := decide_eq_false (by omega)
  have hwt : IntKind.i64.wrap (turned - 1) = turned - 1 := IntWalk.i64_in _ (by omega)
  rw [h1, hn]
  clear hA hB h4 hx hF hw1 h1 hn
  go_enter Try.func14, Try.ntmps14
  go_wp2_with fail
  rw [HW.out]
  have hF0 := HF.out
  go_loopw [5] (fun i wr => ∃ k : Nat, k ≤ n ∧ i = .int .i64 k ∧ Hid (Bk wr w.heap.size 31 [.int .i64 num, .int .i64 fr, .int .i64 to, .int .i64 age, .int .i64 turned, .slice A n cap]) ∧ Hid (Fr No w wr) ∧ Fr No w1 wr) (fun i _ => n - (intOf i).toNat)
  case atStart => exact ⟨0, Nat.zero_le _, rfl, HX, HF, Fr.refl _ _⟩
  case round =>
    clear hF0 x0 x1 x2 x3 x4 x5 xf
    obtain ⟨k, hk, rfl, HX, HF0, hF⟩ := hrel
    obtain ⟨x0, x1, x2, x3, x4, x5, xf⟩ := HX.out.six
    by_cases hlt : k < n
    · have hka : k < data.length := by rw [HD.out]; exact hlt
      have hkl : k < l.length := by rw [HN.out]; exact hlt
      obtain ⟨ad, rfl, ca⟩ := (HA.out.fr hF (fun _ _ _ q => q)).at_ k hka
      obtain ⟨bd, rfl, cb⟩ := (HB.out.fr hF (fun _ _ _ q => q)).at_ k hkl
      have hki : (k : Int) < (n : Int) := by omega
      have hw : IntKind.i64.wrap ((k : Int) + 1) = (k : Int) + 1 := IntWalk.i64_in _ (by omega)
      have hor := H4.out k data[k] l[k] (List.getElem?_eq_getElem hka) (List.getElem?_eq_getElem hkl)
      generalize data[k] = ua at *
      generalize l[k] = ub at *
      have d1 : decide ((k : Int) < (n : Int)) = true := decide_eq_true hki
      by_cases he : ua = ub
      · have hb : ((ua.toNat : Int) == (ub.toNat : Int)) = true := by rw [u8_ne]; simpa using he
        have hb2 : ((ua.toNat : Int) != (ub.toNat : Int)) = false := by rw [bne, hb]; rfl
        clear he hor
        go_wp2
        go_quiet (fail)
        go_wp2
        go_roundw
        case rel => exact ⟨k + 1, by omega, by go_num, HX.out.drew, HF0.out.drewN _, hF.drewN _⟩
        case measure => simp [intOf]; omega
      · have hb : ((ua.toNat : Int) == (ub.toNat : Int)) = false := by rw [u8_ne]; simpa using he
        have hb2 : ((ua.toNat : Int) != (ub.toNat : Int)) = true := by rw [bne, hb]; rfl
        have ht : (k : Int) = turned - 1 := by
          rcases hor with h | h
          · exact absurd h he
          · exact h
        have hq : ((k : Int) == turned - 1) = true := by simpa using ht
        have hq2 : ((k : Int) != turned - 1) = false := by simpa using ht
        clear he hor ht
        go_wp2
        go_quiet (fail)
        go_wp2
        go_roundw
        case rel => exact ⟨k + 1, by omega, by go_num, HX.out.drew, HF0.out.drewN _, hF.drewN _⟩
        case measure => simp [intOf]; omega
    · obtain rfl : k = n := by omega
      go_wp2
      go_ret
      exact ⟨rfl, HF0.out⟩
set_option maxHeartbeats 400000 in
theorem samePacket (p : Pk) (A B : Option Addr) (c d : Nat) (w : World) (hA : BR Any w A p.data) (hB : BR Any w B p.data) (hl : p.data.length ≤ 4611686018427387904) :
    Calls Try.prog 31 #[.agg (p.cells A c).toArray, .agg (p.cells B d).toArray] w fun e w' => e = .returned (.bool true) ∧ Fr No w w' := by
  obtain ⟨num, fr, to, age, turned, data⟩ := p
  unfold Pk.cells
  dsimp only at *
  obtain ⟨w1, hw1⟩ : ∃ w1, (w.alloc (.cells #[.int .i64 num, .int .i64 fr, .int .i64 to, .int .i64 age, .int .i64 turned, .slice A data.length c] 31 (0, 0))).alloc (.cells #[.int .i64 num, .int .i64 fr, .int .i64 to, .int .i64 age, .int .i64 turned, .slice B data.length d] 31 (0, 0)) = w1 := ⟨_, rfl⟩
  have hF : Fr No w w1 := by rw [← hw1]; exact ((Fr.refl _ _).alloc _).alloc _
  have HS := Lib.hid (same A B data.length data.length c d data data w1 (hA.fr hF (fun _ _ _ q => q)) (hB.fr hF (fun _ _ _ q => q)) rfl rfl hl hl)
  rw [show decide (data = data) = true by simp] at HS
  have HW := Lib.hid hw1
  have HF := Lib.hid hF
  clear hA hB hF hw1
  go_enter Try.func31, Try.ntmps31
  go_wp2_with fail
  rw [HW.out]
  refine HS.out.mono ?_
  rintro e w2 ⟨rfl, hF2⟩
  have HF2 := Lib.hid (HF.out.then_ hF2)
  go_wp2
  go_ret
  exact ⟨by simp, HF2.out⟩
end Go.Proofs.Ytilpffolldegbaa.Bg
