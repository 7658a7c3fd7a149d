/- What a script weighs; one step at a bag. Conditions: none. -/
import Derived.Test.YtilpffolldegbaaBagO
namespace Go.Proofs.Ytilpffolldegbaa.Bg
open Go.RowKit Go.Proofs.Ytilpffolldegbaa.Mem
set_option linter.unusedVariables false
set_option linter.unusedSimpArgs false

def capS (m : Nat) : Int := if m ≤ 2147483647 then (m : Int) else 2147483648
def tot (l : List OpV) : Nat := (l.map fun o => o.data.length + 1).sum
theorem tot_append (a b : List OpV) : tot (a ++ b) = tot a + tot b := by simp [tot]
theorem tot_take (l : List OpV) (k : Nat) (hk : k < l.length) : tot (l.take (k + 1)) = tot (l.take k) + l[k].data.length + 1 := by
  rw [List.take_succ_eq_append_getElem hk, tot_append]
  simp [tot]
  omega
theorem tot_le (l : List OpV) (k : Nat) : tot (l.take k) ≤ tot l := by
  conv => rhs; rw [← List.take_append_drop k l, tot_append]
  omega
theorem tot_len (l : List OpV) : l.length ≤ tot l := by
  induction l with
  | nil => simp [tot]
  | cons o r ih => simp only [tot, List.map_cons, List.sum_cons, List.length_cons] at ih ⊢; omega
theorem tot_get (l : List OpV) (k : Nat) (hk : k < l.length) : l[k].data.length ≤ tot l := by
  have := tot_take l k hk
  have := tot_le l (k + 1)
  omega
theorem capS_bd (m : Nat) : 0 ≤ capS m ∧ capS m ≤ 2147483648 := by unfold capS; split <;> omega
theorem more (n k : Nat) (w : World) (hn : n ≤ 2147483648) (hk : k ≤ 140737488355328) : Calls Try.prog 55 #[.int .i64 (n : Int), .int .i64 (k : Int)] w fun e w' => e = .returned (.int .i64 (capS (n + k))) ∧ w' = w := by
  by_cases h1 : 2147483647 < n
  · have d1 : decide (2147483647 < (n : Int)) = true := decide_eq_true (by omega)
    have d1' : decide (2147483647 < n) = true := decide_eq_true (by omega)
    have hc : capS (n + k) = 2147483648 := if_neg (by omega)
    rw [hc]
    go_enter Try.func55, Try.ntmps55
    go_wp2
    go_ret
    exact ⟨rfl, rfl⟩
  · have d1 : decide (2147483647 < (n : Int)) = false := decide_eq_false (by omega)
    have d1' : decide (2147483647 < n) = false := decide_eq_false (by omega)
    have hw : IntKind.i64.wrap (2147483647 - (n : Int)) = 2147483647 - (n : Int) := IntWalk.i64_in _ (by omega)
    by_cases h2 : n + k ≤ 2147483647
    · have d2 : decide (2147483647 - (n : Int) < (k : Int)) = false := decide_eq_false (by omega)
      have hc : capS (n + k) = (n : Int) + (k : Int) := (if_pos h2).trans (by omega)
      have hw2 : IntKind.i64.wrap ((n : Int) + (k : Int)) = (n : Int) + (k : Int) := IntWalk.i64_in _ (by omega)
      rw [hc]
      clear hc
      go_enter Try.func55, Try.ntmps55
      go_wp2
      go_ret
      exact ⟨rfl, rfl⟩
    · have d2 : decide (2147483647 - (n : Int) < (k : Int)) = true := decide_eq_true (by omega)
      have hc : capS (n + k) = 2147483648 := if_neg (by omega)
      rw [hc]
      clear hc
      go_enter Try.func55, Try.ntmps55
      go_wp2
      go_ret
      exact ⟨rfl, rfl⟩
theorem capS_add (a b c : Nat) (h : capS a = (c : Int)) : capS (c + b) = capS (a + b) := by
  unfold capS at *
  split at h
  · have : a = c := by omega
    rw [this]
  · rw [if_neg (by omega), if_neg (by omega)]
theorem capS_nat (m : Nat) : ∃ c : Nat, capS m = (c : Int) ∧ c ≤ 2147483648 := ⟨(capS m).toNat, by have := capS_bd m; omega, by have := capS_bd m; omega⟩
set_option maxHeartbeats 400000 in
theorem added (n : Nat) (hn : n ≤ 2147483648) (A : Option Addr) (c : Nat) (l : List OpV) (w : World) (hA : OR w A l) (hl : l.length ≤ 4611686018427387904) (hd : ∀ o ∈ l, o.data.length ≤ 140737488355328) :
    Calls Try.prog 38 #[.int .i64 (n : Int), .slice A l.length c] w fun e w' => e = .returned (.int .i64 (capS (n + tot l))) ∧ w' = w := by
  have HA := Lib.hid hA
  have HD := Lib.hid hd
  obtain ⟨m, hm⟩ : ∃ m, l.length = m := ⟨_, rfl⟩
  have HM := Lib.hid hm
  rw [hm] at hl ⊢
  clear hA hd hm
  go_enter Try.func38, Try.ntmps38
  go_wp2
  go_loop [0, 5] (fun q i => ∃ k s : Nat, k ≤ m ∧ i = .int .i64 k ∧ q = .int .i64 s ∧ s ≤ 2147483648 ∧ Hid (capS (n + tot (l.take k)) = (s : Int))) (fun _ i => m - (intOf i).toNat)
  case atStart => exact ⟨0, n, Nat.zero_le _, rfl, rfl, hn, by
    show capS (n + tot []) = (n : Int)
    unfold capS
    simp only [tot, List.map_nil, List.sum_nil, Nat.add_zero]
    split <;> omega⟩
  case round =>
    obtain ⟨k, s, hk, rfl, rfl, hs, HS⟩ := hrel
    by_cases hlt : k < m
    · have hkl : k < l.length := by rw [HM.out]; exact hlt
      have hki : (k : Int) < (m : Int) := by omega
      have d1 : decide ((k : Int) < (m : Int)) = true := decide_eq_true hki
      have d1' : decide (k < m) = true := decide_eq_true hlt
      by_cases hb : s ≤ 2147483647
      · have d2 : decide ((s : Int) ≤ 2147483647) = true := decide_eq_true (by omega)
        have d2' : decide (s ≤ 2147483647) = true := decide_eq_true hb
        obtain ⟨ad, Ad, cap, rfl, hlc, hbr, x0, x1, x2, x3, x4, x5⟩ := HA.out k l[k] (List.getElem?_eq_getElem hkl)
        have hdl := HD.out l[k] (List.getElem_mem _)
        have HT := Lib.hid (tot_take l k hkl)
        generalize l[k] = o at *
        obtain ⟨dl, hdl'⟩ : ∃ dl, o.data.length = dl := ⟨_, rfl⟩
        rw [hdl'] at x5 hdl HT
        obtain ⟨s1, hs1, hs1b⟩ := capS_nat (s + dl)
        obtain ⟨s2, hs2, hs2b⟩ := capS_nat (s1 + 1)
        have HM1 := Lib.hid (fun W => more s dl W hs hdl)
        have HM2 := Lib.hid (fun W => more s1 1 W hs1b (by omega))
        rw [hs1] at HM1
        rw [hs2] at HM2
        have HS2 : Hid (capS (n + tot (l.take (k + 1))) = (s2 : Int)) := by
          show _ = _
          rw [HT.out, ← hs2]
          rw [capS_add _ 1 _ hs1, show n + (tot (l.take k) + dl + 1) = (n + tot (l.take k)) + (dl + 1) by omega, ← capS_add _ (dl + 1) _ HS.out, show s + (dl + 1) = s + dl + 1 by omega]
        have hw : IntKind.i64.wrap ((k : Int) + 1) = (k : Int) + 1 := IntWalk.i64_in _ (by omega)
        clear hbr hlc hdl' hs1 hs2 HS
        go_wp2_with fail
        refine (HM1.out _).mono ?_
        rintro e w1 ⟨rfl, rfl⟩
        go_wp2_with fail
        refine (HM2.out _).mono ?_
        rintro e w1 ⟨rfl, rfl⟩
        go_wp2
        go_round
        case rel => exact ⟨k + 1, s2, by omega, by go_num, rfl, hs2b, HS2⟩
        case measure => simp [intOf]; omega
      · have d2 : decide ((s : Int) ≤ 2147483647) = false := decide_eq_false (by omega)
        have d2' : decide (s ≤ 2147483647) = false := decide_eq_false hb
        have HR : Hid (capS (n + tot l) = (s : Int)) := by
          have h1 := HS.out
          have h2 := tot_le l k
          have h3 : s = 2147483648 := by omega
          subst h3
          unfold capS at h1
          show capS _ = _
          unfold capS
          rw [if_neg]
          · rfl
          · split at h1 <;> omega
        clear HS
        go_wp2
        go_ret
        exact ⟨by rw [HR.out]; rfl, rfl⟩
    · obtain rfl : k = m := by omega
      have HR : Hid (capS (n + tot l) = (s : Int)) := by have := HS.out; rwa [List.take_of_length_le (Nat.le_of_eq HM.out)] at this
      have d1 : decide ((k : Int) < (k : Int)) = false := decide_eq_false (by omega)
      have d1' : decide (k < k) = false := decide_eq_false (by omega)
      clear HS
      go_wp2
      go_ret
      exact ⟨by rw [HR.out]; rfl, rfl⟩
theorem beyond (A B C : Option Addr) (c d e : Nat) (x y z : List OpV) (w : World) (hA : OR w A x) (hB : OR w B y) (hC : OR w C z) (hx : x.length ≤ 4611686018427387904) (hy : y.length ≤ 4611686018427387904) (hz : z.length ≤ 4611686018427387904)
    (dx : ∀ o ∈ x, o.data.length ≤ 140737488355328) (dy : ∀ o ∈ y, o.data.length ≤ 140737488355328) (dz : ∀ o ∈ z, o.data.length ≤ 140737488355328) :
    Calls Try.prog 17 #[.slice A x.length c, .slice B y.length d, .slice C z.length e] w fun en w' => en = .returned (.bool (decide (2147483647 < tot x + tot y + tot z))) ∧ w' = w := by
  obtain ⟨s1, hs1, b1⟩ := capS_nat (0 + tot x)
  obtain ⟨s2, hs2, b2⟩ := capS_nat (s1 + tot y)
  obtain ⟨s3, hs3, b3⟩ := capS_nat (s2 + tot z)
  have H1 := Lib.hid (added 0 (by omega) A c x w hA hx dx)
  have H2 := Lib.hid (added s1 b1 B d y w hB hy dy)
  have H3 := Lib.hid (added s2 b2 C e z w hC hz dz)
  rw [hs1] at H1
  rw [hs2] at H2
  rw [hs3] at H3
  have hr : (decide (2147483647 < (s3 : Int))) = decide (2147483647 < tot x + tot y + tot z) := by
    rw [← hs3, capS_add _ _ _ hs2, Nat.add_assoc, capS_add _ _ _ hs1, Nat.zero_add, ← Nat.add_assoc, Bool.eq_iff_iff]
    unfold capS
    split <;> simp <;> omega
  have HR := Lib.hid hr
  generalize x.length = nx at *
  generalize y.length = ny at *
  generalize z.length = nz at *
  clear hs1 hs2 hs3 hr hA hB hC dx dy dz
  go_enter Try.func17, Try.ntmps17
  go_wp2_with fail
  refine H1.out.mono ?_
  rintro en w1 ⟨rfl, rfl⟩
  go_wp2_with fail
  refine H2.out.mono ?_
  rintro en w1 ⟨rfl, rfl⟩
  go_wp2_with fail
  refine H3.out.mono ?_
  rintro en w1 ⟨rfl, rfl⟩
  go_wp2
  go_ret
  refine ⟨?_, rfl⟩
  rw [← HR.out]
  rfl
end Go.Proofs.Ytilpffolldegbaa.Bg
