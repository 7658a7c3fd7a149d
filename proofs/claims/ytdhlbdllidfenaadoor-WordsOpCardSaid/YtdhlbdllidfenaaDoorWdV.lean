/- Words: Digits and mark, walked. Conditions: none. -/
import Derived.Test.YtdhlbdllidfenaaDoorWdU
import Derived.Lib.ItoaNum
namespace Go.Proofs.YtdhlbdllidfenaaDoor.Wd
open Go.RowKit Go.Proofs.YtdhlbdllidfenaaDoor.Mem
set_option linter.unusedVariables false
set_option linter.unusedSimpArgs false
theorem conv1 (W : World) (c : UInt8) (g : Nat) (h : W.cell? ⟨g, 0, none⟩ = some (.int .u8 (c.toNat : Int))) : (convert 54 9 (.slice (some ⟨g, 0, none⟩) 1 1)).run Tryd.prog W = .ok (.string ⟨#[c]⟩) W :=
  conv (some ⟨g, 0, none⟩) 1 1 [c] W rfl (fun j u hj => by
    match j, hj with
    | 0, hj =>
      simp at hj
      subst hj
      exact ⟨_, rfl, trivial, by rw [add0]; exact h⟩)
theorem newCell (W : World) (v : Value) : (W.alloc (.cells #[v] 5 (0, 0))).cell? ⟨W.heap.size, 0, none⟩ = some v := (Bk.new W 5 [v]).cell 0
theorem keepCell {W W' : World} {a : Addr} {v : Value} (h : Fr No W W') (hc : W.cell? a = some v) : W'.cell? a = some v := by
  have hlt := cell_lt hc
  have := h.block a.block hlt id
  rw [← hc]
  unfold World.cell?
  rw [this]
theorem dec_len : ∀ (n : Nat), (Lib.decDigits n).length ≤ n + 1 := by
  intro n
  induction n using Nat.strongRecOn with
  | _ n ih =>
  by_cases h : n < 10
  · rw [Lib.decDigits_one h]; simp
  · rw [Lib.decDigits, dif_neg h, List.length_append]
    have := ih (n / 10) (by omega)
    have e : [UInt8.ofNat (48 + n % 10)].length = 1 := rfl
    omega
set_option maxHeartbeats 4000000 in
set_option maxRecDepth 100000 in
theorem wDigits : ∀ (n : Nat), n ≤ 4611686018427387904 → ∀ (w : World), Calls Tryd.prog 10 #[.int .i64 (n : Int)] w fun e w' => e = .returned (.string ⟨(Lib.decDigits n).toArray⟩) ∧ Fr No w w' := by
  intro n
  induction n using Nat.strongRecOn with
  | _ n ih =>
  intro hn w
  by_cases h10 : n < 10
  · have d1 : decide ((n : Int) < 10) = true := decide_eq_true (by omega)
    have d1' : decide (n < 10) = true := decide_eq_true h10
    have HE := Lib.hid (Lib.decDigits_one h10)
    obtain ⟨c, hc⟩ : ∃ c, UInt8.ofNat (48 + n) = c := ⟨_, rfl⟩
    have hcn : c.toNat = 48 + n := by rw [← hc, UInt8.toNat_ofNat']; omega
    have hw1 : IntKind.i64.wrap (48 + (n : Int)) = 48 + (n : Int) := IntWalk.i64_in _ (by omega)
    have hw2 : (48 + (n : Int)) % 256 = (c.toNat : Int) := by omega
    have cv := conv1 (w.alloc (.cells #[.int .u8 (c.toNat : Int)] 5 (0, 0))) c w.heap.size (newCell w _)
    rw [hc] at HE
    clear hc hcn h10 ih
    go_enter Tryd.func10, Tryd.ntmps10
    go_wp2
    go_ret
    exact ⟨by rw [HE.out]; rfl, (Fr.refl _ _).alloc _⟩
  · have d1 : decide ((n : Int) < 10) = false := decide_eq_false (by omega)
    have d1' : decide (n < 10) = false := decide_eq_false h10
    have HE := Lib.hid (show Lib.decDigits n = Lib.decDigits (n / 10) ++ [UInt8.ofNat (48 + n % 10)] by rw [Lib.decDigits, dif_neg h10])
    obtain ⟨c, hc⟩ : ∃ c, UInt8.ofNat (48 + n % 10) = c := ⟨_, rfl⟩
    have hcn : c.toNat = 48 + n % 10 := by rw [← hc, UInt8.toNat_ofNat']; omega
    obtain ⟨m, hm⟩ : ∃ m, n / 10 = m := ⟨_, rfl⟩
    obtain ⟨r, hr⟩ : ∃ r, n % 10 = r := ⟨_, rfl⟩
    have HC := Lib.hid (fun W => ih m (by omega) (by omega) W)
    have f1 : (n : Int) / 10 = (m : Int) := by omega
    have f2 : (n : Int) % 10 = (r : Int) := by omega
    have f3 : (n : Int).tdiv 10 = (m : Int) := by rw [Int.tdiv_eq_ediv_of_nonneg (by omega)]; exact f1
    have f4 : (n : Int).tmod 10 = (r : Int) := by rw [Int.tmod_eq_emod_of_nonneg (by omega)]; exact f2
    have f5 : IntKind.i64.wrap (m : Int) = (m : Int) := IntWalk.i64_in _ (by omega)
    have f6 : IntKind.i64.wrap (r : Int) = (r : Int) := IntWalk.i64_in _ (by omega)
    have hw1 : IntKind.i64.wrap (48 + (r : Int)) = 48 + (r : Int) := IntWalk.i64_in _ (by omega)
    have hw2 : (48 + (r : Int)) % 256 = (c.toNat : Int) := by omega
    have hw3 : IntKind.u8.wrap (48 + (r : Int)) = (c.toNat : Int) := hw2
    obtain ⟨X, hX⟩ : ∃ X : ByteArray, (⟨(Lib.decDigits m).toArray⟩ : ByteArray) = X := ⟨_, rfl⟩
    have hXs : X.size ≤ m + 1 := by
      rw [← hX, ← bs_len, bs_of]
      exact dec_len m
    have hcat : ¬ (9223372036854775807 < X.size + 1) := by omega
    rw [hX] at HC
    rw [hm, hc] at HE
    have HX := Lib.hid hX
    clear hc hcn h10 ih hm hr hX
    go_enter Tryd.func10, Tryd.ntmps10
    go_wp2
    have kc := fun (W : World) => conv1 (W.alloc (.cells #[.int .u8 (c.toNat : Int)] 5 (0, 0))) c W.heap.size (newCell W _)
    have kd := fun (W : World) => conv1 (W.alloc (.cells #[.int .u8 (c.toNat : Int)] 5 (0, 0))).drew c W.heap.size (newCell W _)
    go_region_law (first | (go_simp; go_at_call 10; refine (HC.out _).mono ?_; rintro e w4 ⟨rfl, hF4⟩; try (have kc4 := conv1 w4 c w.heap.size (keepCell hF4 (newCell w.drew (.int .u8 (c.toNat : Int)))))))
    all_goals
      clear kc kd
      go_wp2
      go_ret
      refine ⟨?_, ?_⟩
      · rw [HE.out, ← HX.out]
        show Ending.returned (.string ((⟨(Lib.decDigits m).toArray⟩ : ByteArray) ++ ⟨[c].toArray⟩)) = _
        rw [ByteArray.mk_append_mk]
      · first
          | exact ((Fr.refl No w).drew.then_ hF4).alloc _
          | exact (((Fr.refl No w).alloc _).drew).then_ hF4
set_option maxHeartbeats 2000000 in
theorem wMark (n : Nat) (hn : n ≤ 4611686018427387904) (w : World) : Calls Tryd.prog 33 #[.int .i64 (n : Int)] w fun e w' => e = .returned (.string ⟨(42 :: Lib.decDigits n).toArray⟩) ∧ Fr No w w' := by
  have HD := Lib.hid (fun W => wDigits n hn W)
  obtain ⟨X, hX⟩ : ∃ X : ByteArray, (⟨(Lib.decDigits n).toArray⟩ : ByteArray) = X := ⟨_, rfl⟩
  have hXs : X.size ≤ n + 1 := by
    rw [← hX, ← bs_len, bs_of]
    exact dec_len n
  have hcat : ¬ (9223372036854775807 < 1 + X.size) := by omega
  have HX := Lib.hid hX
  rw [hX] at HD
  clear hX
  go_enter Tryd.func33, Tryd.ntmps33
  go_wp2_with fail
  refine (HD.out _).mono ?_
  rintro e w1 ⟨rfl, hF1⟩
  go_wp2
  go_ret
  refine ⟨?_, hF1⟩
  rw [← HX.out]
  show Ending.returned (.string ((⟨[42].toArray⟩ : ByteArray) ++ ⟨(Lib.decDigits n).toArray⟩)) = _
  rw [ByteArray.mk_append_mk]; rfl
end Go.Proofs.YtdhlbdllidfenaaDoor.Wd
