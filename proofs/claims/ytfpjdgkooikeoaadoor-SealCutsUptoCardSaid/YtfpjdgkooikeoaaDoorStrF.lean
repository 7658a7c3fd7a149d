/- Lists of lists that came in; 'more', 'added'; a stream beside a list of what it must tell. Conditions: none. -/
import Derived.Test.YtfpjdgkooikeoaaDoorStrE
import Derived.Test.YtfpjdgkooikeoaaDoorSealQ
namespace Go.Proofs.YtfpjdgkooikeoaaDoor.Opn
open Go.ChangeShapes Go.WideShapes Go.ChangeAt Go.RowKit Go.Deep Go.Proofs.YtfpjdgkooikeoaaDoor.Mem Go.Proofs.YtfpjdgkooikeoaaDoor.Sl
set_option linter.unusedVariables false
/-- lists of bytes -/
def LL (w : World) (A : Option Addr) (xs : List HL) : Prop := ∀ (j : Nat) (p : HL), xs[j]? = some p → (∃ a, A = some a ∧ w.cell? (a.add j) = some p.v) ∧ GoodB w p.A p.d p.c
theorem LL.no {w w1 : World} {A : Option Addr} {xs : List HL} (h : LL w A xs) (hf : Fr No w w1) : LL w1 A xs := fun j p hj => by
  obtain ⟨⟨a, e, c⟩, g, g'⟩ := h j p hj
  exact ⟨⟨a, e, (hf.to.cell (World.block_lt_of_cell? w _ c)).trans c⟩, g.fr hf (fun _ _ _ q => q), g'⟩
theorem lists {H : Type} {enc : TypeId × Value → H} {W : World} {A : Option Addr} {len cap : Nat} {dd : DataW H} {ps : List MemPlace} (hS : Sz Tryd.prog 45 dd) (h : DataW.Trod enc Tryd.prog W 0 (fun _ => true) true 45 (.slice A len cap) dd ps) :
    ∃ xs : List HL, xs.length = len ∧ LL W A xs ∧ len ≤ cap ∧ cap ≤ 5864062014634 := by
  obtain ⟨xs, h1, h2, h3, h4, _⟩ := slice_gen (enc := enc) (P := Tryd.prog) (W := W) 1 (fun (p : HL) cs => cs = [p.v] ∧ GoodB W p.A p.d p.c) ⟨none, 0, none, []⟩ Tryd.underlying45 (by kernel_rfl) (fun n cs x hl hs hx => by
    match cs, hl with
    | [c0], _ =>
      obtain ⟨A, l, c, rfl, g⟩ := one_bytes hs hx
      exact ⟨⟨A, c, none, l⟩, rfl, g⟩) hS h
  rw [show Tryd.prog.bytesOf 22 = 24 by kernel_rfl] at h4
  refine ⟨xs, h1, fun j p hj => ?_, h3, by have : reachBytes = 140737488351232 := rfl; omega⟩
  obtain ⟨a, cs, hA, _, ⟨rfl, g⟩, hcell⟩ := h2 j p hj
  exact ⟨⟨a, hA, by have := hcell 0 _ rfl; rwa [Nat.mul_one, Nat.add_zero] at this⟩, g⟩
end Go.Proofs.YtfpjdgkooikeoaaDoor.Opn
namespace Go.Proofs.YtfpjdgkooikeoaaDoor.Sl
open Go.RowKit Go.Proofs.YtfpjdgkooikeoaaDoor.Mem Go.Proofs.YtfpjdgkooikeoaaDoor.Opn
set_option linter.unusedVariables false
set_option linter.unusedSimpArgs false
def wt : List HL → Nat
  | [] => 0
  | x :: r => x.d.length + 1 + wt r
theorem wt_take (xs : List HL) : ∀ (i : Nat) (p : HL), xs[i]? = some p → wt (xs.take (i + 1)) = wt (xs.take i) + (p.d.length + 1) := by
  induction xs with
  | nil => intro i p h; simp at h
  | cons x r ih =>
    intro i p h
    match i, h with
    | 0, h =>
      simp only [List.getElem?_cons_zero, Option.some.injEq] at h
      subst h
      simp [wt]
    | i + 1, h =>
      rw [List.getElem?_cons_succ] at h
      have := ih i p h
      rw [List.take_succ_cons, List.take_succ_cons]
      unfold wt
      omega
theorem wt_le (xs : List HL) : ∀ i, wt (xs.take i) ≤ wt xs := by
  induction xs with
  | nil => intro i; simp [wt]
  | cons x r ih =>
    intro i
    match i with
    | 0 => simp [wt]
    | i + 1 =>
      rw [List.take_succ_cons]
      have := ih i
      unfold wt
      omega
theorem wt_len (xs : List HL) : xs.length ≤ wt xs := by
  induction xs with
  | nil => simp
  | cons x r ih => rw [List.length_cons]; unfold wt; omega
def capB (n : Nat) : Nat := min n 2147483648
set_option maxHeartbeats 1000000 in
theorem more (s k : Nat) (w : World) (hk : k ≤ 4611686018427387904) : Calls Tryd.prog 38 #[.int .i64 (capB s : Int), .int .i64 (k : Int)] w fun e w' => e = .returned (.int .i64 (capB (s + k) : Int)) ∧ w' = w := by
  obtain ⟨c, hc⟩ : ∃ c, capB s = c := ⟨_, rfl⟩
  obtain ⟨r, hr⟩ : ∃ r, capB (s + k) = r := ⟨_, rfl⟩
  rw [hc, hr]
  unfold capB at hc hr
  by_cases h1 : 2147483647 < c
  · have d1 : decide ((2147483647 : Int) < (c : Int)) = true := decide_eq_true (by omega)
    obtain rfl : r = 2147483648 := by omega
    clear hc hr
    go_enter Tryd.func38, Tryd.ntmps38
    go_wp2
    go_ret
    exact ⟨rfl, rfl⟩
  · have d1 : decide ((2147483647 : Int) < (c : Int)) = false := decide_eq_false (by omega)
    have hw : IntKind.i64.wrap (2147483647 - (c : Int)) = 2147483647 - (c : Int) := IntWalk.i64_in _ (by omega)
    by_cases h2 : 2147483647 < c + k
    · have d2 : decide ((2147483647 : Int) - (c : Int) < (k : Int)) = true := decide_eq_true (by omega)
      obtain rfl : r = 2147483648 := by omega
      clear hc hr
      go_enter Tryd.func38, Tryd.ntmps38
      go_wp2
      go_ret
      exact ⟨rfl, rfl⟩
    · have d2 : decide ((2147483647 : Int) - (c : Int) < (k : Int)) = false := decide_eq_false (by omega)
      obtain rfl : r = c + k := by omega
      have hw2 : IntKind.i64.wrap ((c : Int) + (k : Int)) = (c : Int) + (k : Int) := IntWalk.i64_in _ (by omega)
      clear hc hr
      go_enter Tryd.func38, Tryd.ntmps38
      go_wp2
      go_ret
      exact ⟨by simp, rfl⟩
set_option maxHeartbeats 2000000 in
theorem added (s : Nat) (A : Option Addr) (n c : Nat) (xs : List HL) (w : World) (hl : xs.length = n) (hn : n ≤ 4611686018427387904) (hA : LL w A xs) : Calls Tryd.prog 27 #[.int .i64 (capB s : Int), .slice A n c] w fun e w' => e = .returned (.int .i64 (capB (s + wt xs) : Int)) ∧ w' = w := by
  have HA := Lib.hid hA
  have HX := Lib.hid hl
  clear hA hl
  obtain ⟨c0, hc0⟩ : ∃ c0, capB s = c0 := ⟨_, rfl⟩
  have HC0 := Lib.hid hc0
  rw [hc0]
  clear hc0
  go_enter Tryd.func27, Tryd.ntmps27
  go_wp2
  go_loopw [0, 5] (fun v i wr => ∃ (k t : Nat), k ≤ n ∧ i = .int .i64 (k : Int) ∧ v = .int .i64 (t : Int) ∧ t ≤ 2147483648 ∧ Hid (t = capB (s + wt (xs.take k))) ∧ wr = w) (fun _ i _ => n - (intOf i).toNat)
  case atStart => exact ⟨0, c0, Nat.zero_le _, rfl, rfl, by rw [← HC0.out]; exact Nat.min_le_right _ _, by show c0 = _; rw [List.take_zero, ← HC0.out]; rfl, rfl⟩
  case round =>
    obtain ⟨k, t, hk, rfl, rfl, ht, HT, rfl⟩ := hrel
    have hw : IntKind.i64.wrap ((k : Int) + 1) = (k : Int) + 1 := IntWalk.i64_in _ (by omega)
    by_cases hlt : k < n
    · have dk : decide ((k : Int) < (n : Int)) = true := decide_eq_true (by omega)
      have hki : (k : Int) < (n : Int) := by omega
      by_cases h1 : t ≤ 2147483647
      · have d1 : decide ((t : Int) ≤ 2147483647) = true := decide_eq_true (by omega)
        obtain ⟨p, hp⟩ : ∃ p, xs[k]? = some p := ⟨_, List.getElem?_eq_getElem (by rw [HX.out]; exact hlt)⟩
        obtain ⟨⟨a, rfl, x0⟩, _, g1, g2⟩ := HA.out k p hp
        have HW := Lib.hid (wt_take xs k p hp)
        unfold HL.v at x0
        generalize p.d.length = m at *
        have HM1 := Lib.hid (fun W => more (s + wt (xs.take k)) m W (by omega))
        rw [← HT.out] at HM1
        obtain ⟨t2, ht2⟩ : ∃ t2, capB (s + wt (xs.take k) + m) = t2 := ⟨_, rfl⟩
        have HM2 := Lib.hid (fun W => more (s + wt (xs.take k) + m) 1 W (by omega))
        rw [ht2] at HM1 HM2
        obtain ⟨t3, ht3⟩ : ∃ t3, capB (s + wt (xs.take k) + m + 1) = t3 := ⟨_, rfl⟩
        rw [ht3] at HM2
        have HT3 := Lib.hid (show t3 = capB (s + wt (xs.take (k + 1))) by rw [← ht3, HW.out]; congr 1; omega)
        have ht3b : t3 ≤ 2147483648 := by rw [← ht3]; exact Nat.min_le_right _ _
        clear ht2 ht3 hp HW HT
        go_wp2_with fail
        refine (HM1.out _).mono ?_
        rintro e w2 ⟨rfl, rfl⟩
        go_wp2_with fail
        refine (HM2.out _).mono ?_
        rintro e w3 ⟨rfl, rfl⟩
        go_wp2
        go_roundw
        case rel => exact ⟨k + 1, t3, by omega, by go_num, rfl, ht3b, HT3, trivial⟩
        case measure => simp [intOf]; omega
      · have d1 : decide ((t : Int) ≤ 2147483647) = false := decide_eq_false (by omega)
        have HE := Lib.hid (show t = capB (s + wt xs) by
          have h1 := HT.out
          have h2 := wt_le xs k
          unfold capB at *
          omega)
        clear HT
        go_wp2
        go_ret
        exact ⟨by rw [HE.out]; rfl, rfl⟩
    · obtain rfl : n = k := by omega
      have dk : decide ((n : Int) < (n : Int)) = false := decide_eq_false (by omega)
      have HE := Lib.hid (show t = capB (s + wt xs) by
        have h1 := HT.out
        rwa [List.take_of_length_le (by rw [HX.out]; exact Nat.le_refl _)] at h1)
      clear HT hlt
      go_wp2
      go_ret
      exact ⟨by rw [HE.out]; rfl, rfl⟩
end Go.Proofs.YtfpjdgkooikeoaaDoor.Sl
