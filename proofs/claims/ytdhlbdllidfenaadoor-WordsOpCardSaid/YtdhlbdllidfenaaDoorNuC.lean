/- Words: the reference's Number, and WordsNumber, walked. Conditions: none. -/
import Derived.Test.YtdhlbdllidfenaaDoorNuB
namespace Go.Proofs.YtdhlbdllidfenaaDoor.Nu
open Go.RowKit Go.Proofs.YtdhlbdllidfenaaDoor.Mem
set_option linter.unusedVariables false
set_option linter.unusedSimpArgs false
theorem rn_end {l : List UInt8} {k n : Nat} (h : l.length ≤ k) : rnW (l.drop k) n = some n := by rw [List.drop_of_length_le h]; rfl
theorem rn_here {l : List UInt8} {k n : Nat} (h : k < l.length) : rnW (l.drop k) n = if l[k].toNat < 48 ∨ 57 < l[k].toNat then none else if (9223372036854775807 - (l[k].toNat - 48)) / 10 < n then none else rnW (l.drop (k + 1)) (10 * n + (l[k].toNat - 48)) := by
  rw [List.drop_eq_getElem_cons h]; rfl
theorem getD_get {l : List UInt8} {k : Nat} (h : k < l.length) : l.getD k 0 = l[k] := by rw [List.getD_eq_getElem?_getD, List.getElem?_eq_getElem h]; rfl
set_option maxHeartbeats 4000000 in
set_option maxRecDepth 100000 in
theorem rNumber (s : ByteArray) (hs : s.size ≤ 140737488351232) (w : World) : Calls Tryd.prog 9 #[.string s] w fun e w' => e = numE (bs s) ∧ Fr No w w' := by
  by_cases h0 : s.size = 0
  · have HE := Lib.hid (show numE (bs s) = .returned (.tuple #[.int .i64 0, .bool false]) by
      have hn : bs s = [] := List.eq_nil_of_length_eq_zero (by rw [bs_len]; exact h0)
      unfold numE numL; rw [if_pos (.inl hn)])
    have e1 : ((s.size : Int) == 0) = true := by rw [beq_iff_eq]; omega
    clear h0
    go_enter Tryd.func9, Tryd.ntmps9
    go_wp2
    go_ret2
    exact ⟨by rw [HE.out]; rfl, Fr.refl _ _⟩
  have e1 : ((s.size : Int) == 0) = false := by rw [beq_eq_false_iff_ne]; omega
  have hne : bs s ≠ [] := fun e => h0 (by rw [← bs_len, e]; rfl)
  have h0i : (0 : Int) < (s.size : Int) := by omega
  have h0n : 0 < s.size := by omega
  obtain ⟨ch, hch⟩ : ∃ ch, s[0]'h0n = ch := ⟨_, rfl⟩
  have hgd : (bs s).getD 0 0 = ch := by rw [getD_get (by rw [bs_len]; exact h0n), bs_get s 0 h0n, hch]
  by_cases hz : 1 < s.size ∧ ch.toNat = 48
  · have HE := Lib.hid (show numE (bs s) = .returned (.tuple #[.int .i64 0, .bool false]) by
      unfold numE numL; rw [if_pos (.inr ⟨by rw [bs_len]; exact hz.1, by rw [hgd]; exact hz.2⟩)])
    have e2 : decide ((1 : Int) < (s.size : Int)) = true := decide_eq_true (by omega)
    have e2' : decide (1 < s.size) = true := decide_eq_true hz.1
    have e3 : ((ch.toNat : Int) == 48) = true := by rw [beq_iff_eq]; omega
    clear hz hgd hne h0
    go_enter Tryd.func9, Tryd.ntmps9
    go_wp2
    go_ret2
    exact ⟨by rw [HE.out]; rfl, Fr.refl _ _⟩
  obtain ⟨R, hR⟩ : ∃ R, rnW (bs s) 0 = R := ⟨_, rfl⟩
  have HE := Lib.hid (show numL (bs s) = R by
    unfold numL
    rw [if_neg (fun z => by
      rcases z with z | ⟨z1, z2⟩
      · exact hne z
      · exact hz ⟨by rw [← bs_len]; exact z1, by rw [← hgd]; exact z2⟩), hR])
  have HR := Lib.hid hR
  have hz2 : (decide ((1 : Int) < (s.size : Int)) = false ∧ decide (1 < s.size) = false) ∨ (decide ((1 : Int) < (s.size : Int)) = true ∧ decide (1 < s.size) = true ∧ ((ch.toNat : Int) == 48) = false) := by
    by_cases h : 1 < s.size
    · exact .inr ⟨decide_eq_true (by omega), decide_eq_true h, by rw [beq_eq_false_iff_ne]; intro e; exact hz ⟨h, by omega⟩⟩
    · exact .inl ⟨decide_eq_false (by omega), decide_eq_false h⟩
  clear hz hgd hne h0 hR
  rcases hz2 with ⟨e2, e2'⟩ | ⟨e2, e2', e3⟩
  all_goals
    go_enter Tryd.func9, Tryd.ntmps9
    go_wp2
    go_loopw [4, 5] (fun v i wr => ∃ (k n : Nat), v = .int .i64 (n : Int) ∧ i = .int .i64 (k : Int) ∧ k ≤ s.size ∧ n ≤ 9223372036854775807 ∧ Hid (rnW ((bs s).drop k) n = R) ∧ Hid (Fr No w wr)) (fun _ i _ => s.size - (intOf i).toNat)
    case atStart => exact ⟨0, 0, rfl, rfl, Nat.zero_le _, by omega, HR.out, Fr.refl _ _⟩
    case round =>
      clear HR
      obtain ⟨k, n, rfl, rfl, hk, hn, HQ, HF⟩ := hrel
      have hwk : IntKind.i64.wrap ((k : Int) + 1) = (k : Int) + 1 := IntWalk.i64_in _ (by omega)
      by_cases hlt : k < s.size
      · have d1 : decide ((k : Int) < (s.size : Int)) = true := decide_eq_true (by omega)
        have d1' : decide (k < s.size) = true := decide_eq_true hlt
        have hki : (k : Int) < (s.size : Int) := by omega
        obtain ⟨c, hc⟩ : ∃ c, s[k]'hlt = c := ⟨_, rfl⟩
        have hbk : k < (bs s).length := by rw [bs_len]; exact hlt
        have HX := Lib.hid (show R = if c.toNat < 48 ∨ 57 < c.toNat then none else if (9223372036854775807 - (c.toNat - 48)) / 10 < n then none else rnW ((bs s).drop (k + 1)) (10 * n + (c.toNat - 48)) by
          rw [← HQ.out, rn_here hbk, bs_get s k hlt, hc])
        by_cases hd : c.toNat < 48 ∨ 57 < c.toNat
        · have HE2 := Lib.hid (show numE (bs s) = .returned (.tuple #[.int .i64 0, .bool false]) by unfold numE; rw [HE.out, HX.out, if_pos hd])
          have hdd : (decide ((c.toNat : Int) < 48) = true) ∨ (decide ((c.toNat : Int) < 48) = false ∧ decide (57 < (c.toNat : Int)) = true) := by
            simp only [decide_eq_true_eq, decide_eq_false_iff_not]
            omega
          clear hd hbk
          rcases hdd with e4 | ⟨e4, e5⟩
          all_goals
            go_wp2
            go_ret2
            exact ⟨by rw [HE2.out]; rfl, HF.out⟩
        · have e4 : decide ((c.toNat : Int) < 48) = false := decide_eq_false (by omega)
          have e5 : decide (57 < (c.toNat : Int)) = false := decide_eq_false (by omega)
          obtain ⟨D, hD⟩ : ∃ D, c.toNat - 48 = D := ⟨_, rfl⟩
          have hD9 : D ≤ 9 := by omega
          obtain ⟨M, hM⟩ : ∃ M, 9223372036854775807 - D = M := ⟨_, rfl⟩
          obtain ⟨Q, hQ⟩ : ∃ Q, M / 10 = Q := ⟨_, rfl⟩
          have u1 : ((c.toNat : Int) - 48) % 256 = (D : Int) := by omega
          have u1' : IntKind.u8.wrap ((c.toNat : Int) - 48) = (D : Int) := u1
          have u1'' : (c.toNat : Int) - 48 = (D : Int) := by omega
          have u2 : IntKind.i64.wrap (D : Int) = (D : Int) := IntWalk.i64_in _ (by omega)
          have u3 : IntKind.i64.wrap (9223372036854775807 - (D : Int)) = (M : Int) := by rw [IntWalk.i64_in _ (by omega)]; omega
          have u4 : (M : Int).tdiv 10 = (Q : Int) := by rw [Int.tdiv_eq_ediv_of_nonneg (by omega)]; omega
          have u4' : (M : Int) / 10 = (Q : Int) := by omega
          have u5 : IntKind.i64.wrap (Q : Int) = (Q : Int) := IntWalk.i64_in _ (by omega)
          rw [hD, hM, hQ, if_neg hd] at HX
          by_cases hover : Q < n
          · have HE2 := Lib.hid (show numE (bs s) = .returned (.tuple #[.int .i64 0, .bool false]) by unfold numE; rw [HE.out, HX.out, if_pos hover])
            have e6 : decide ((Q : Int) < (n : Int)) = true := decide_eq_true (by omega)
            have e6' : decide (Q < n) = true := decide_eq_true hover
            clear hd hbk hD hM hQ hover
            go_wp2
            go_ret2
            exact ⟨by rw [HE2.out]; rfl, HF.out⟩
          · have e6 : decide ((Q : Int) < (n : Int)) = false := decide_eq_false (by omega)
            have e6' : decide (Q < n) = false := decide_eq_false hover
            obtain ⟨n2, hn2⟩ : ∃ n2, 10 * n + D = n2 := ⟨_, rfl⟩
            have hn2b : n2 ≤ 9223372036854775807 := by omega
            have u6 : IntKind.i64.wrap (10 * (n : Int)) = 10 * (n : Int) := IntWalk.i64_in _ (by omega)
            have u7 : IntKind.i64.wrap (10 * (n : Int) + (D : Int)) = (n2 : Int) := by rw [IntWalk.i64_in _ (by omega)]; omega
            have HQ2 := Lib.hid (show rnW ((bs s).drop (k + 1)) n2 = R by rw [HX.out, if_neg hover, hn2])
            clear hd hbk hD hM hQ hover hn2
            go_wp2
            go_roundw
            case rel => exact ⟨k + 1, n2, rfl, by go_num, by omega, hn2b, HQ2, HF⟩
            case measure => simp [intOf]; omega
      · have d1 : decide ((k : Int) < (s.size : Int)) = false := decide_eq_false (by omega)
        have d1' : decide (k < s.size) = false := decide_eq_false hlt
        have HE2 := Lib.hid (show numE (bs s) = .returned (.tuple #[.int .i64 (n : Int), .bool true]) by
          unfold numE; rw [HE.out, ← HQ.out, rn_end (by rw [bs_len]; omega)])
        go_wp2
        go_ret2
        exact ⟨by rw [HE2.out]; rfl, HF.out⟩
theorem dec_len10 : ∀ (k n : Nat), n < 10 ^ (k + 1) → (Lib.decDigits n).length ≤ k + 1
  | 0, n, h => by rw [Lib.decDigits_one (by simpa using h)]; simp
  | k + 1, n, h => by
    by_cases h10 : n < 10
    · rw [Lib.decDigits_one h10]; simp
    · rw [dec_big h10, List.length_append]
      have := dec_len10 k (n / 10) (by rw [Nat.pow_succ] at h; omega)
      have e : [UInt8.ofNat (48 + n % 10)].length = 1 := rfl
      omega
set_option maxHeartbeats 4000000 in
set_option maxRecDepth 100000 in
theorem number_row (w : World) (hV : Vs w) (s : ByteArray) (hs : s.size ≤ 140737488351232) (n : Int) (hn : (Lit.int .i64 n).wf = true) : Calls Tryd.prog 3 #[.string s, .int .i64 n] w fun e w' => e = .returned (.bool true) ∧ Below w.heap.size w w' := by
  have hr : -9223372036854775808 ≤ n ∧ n ≤ 9223372036854775807 := by simpa [Lit.wf, IntKind.min, IntKind.max, IntKind.signed, IntKind.bits] using hn
  obtain ⟨m, hm, hmn⟩ : ∃ m : Nat, m ≤ 9223372036854775807 ∧ ((¬ n < 0 ∧ n = (m : Int)) ∨ (n < 0 ∧ -(n + 1) = (m : Int))) := by
    by_cases h : n < 0
    · exact ⟨(-(n + 1)).toNat, by omega, .inr ⟨h, by omega⟩⟩
    · exact ⟨n.toNat, by omega, .inl ⟨h, by omega⟩⟩
  have HN := Lib.hid (wNumber s hs w hV)
  have HRN := Lib.hid (fun W => rNumber s hs W)
  have HV := Lib.hid hV
  have hdl := dec_len10 19 m (Nat.lt_of_le_of_lt hm (by decide))
  obtain ⟨X, hX⟩ : ∃ X : ByteArray, (⟨(Lib.decDigits m).toArray⟩ : ByteArray) = X := ⟨_, rfl⟩
  have hbX : bs X = Lib.decDigits m := by rw [← hX, bs_of]
  have hXs : X.size ≤ 20 := by rw [← bs_len, hbX]; exact hdl
  have HD := Lib.hid (fun W => wDigits m hm W)
  rw [hX] at HD
  have HN2 := Lib.hid (fun W (hW : Vs W) => wNumber X (by omega) W hW)
  rw [hbX, show numE (Lib.decDigits m) = .returned (.tuple #[.int .i64 (m : Int), .bool true]) by unfold numE; rw [num_dec m hm]] at HN2
  have hcase : (decide (n < 0) = false ∧ n = (m : Int)) ∨ (decide (n < 0) = true ∧ IntKind.i64.wrap (n + 1) = n + 1 ∧ IntKind.i64.wrap (-(n + 1)) = (m : Int)) := by
    rcases hmn with ⟨h1, h2⟩ | ⟨h1, h2⟩
    · exact .inl ⟨decide_eq_false h1, h2⟩
    · exact .inr ⟨decide_eq_true h1, IntWalk.i64_in _ (by omega), by rw [IntWalk.i64_in _ (by omega)]; exact h2⟩
  obtain ⟨v, b, hvb⟩ : ∃ (v : Int) (b : Bool), numE (bs s) = .returned (.tuple #[.int .i64 v, .bool b]) := by
    unfold numE
    split
    · exact ⟨_, _, rfl⟩
    · exact ⟨_, _, rfl⟩
  rw [hvb] at HN HRN
  clear hvb hXs hbX hX hdl hm hmn hr hn hs hV
  rcases hcase with ⟨d0, rfl⟩ | ⟨d0, u1, u2⟩
  all_goals
    go_enter Tryd.func3, Tryd.ntmps3
    go_wp2_with fail
    refine HN.out.mono ?_
    rintro e w1 ⟨rfl, hF1⟩
    have HF1 := Lib.hid hF1
    clear hF1
    go_wp2_with fail
    refine (HRN.out _).mono ?_
    rintro e w2 ⟨rfl, hF2⟩
    have HF2 := Lib.hid (HF1.out.then_ hF2)
    clear hF2
    go_wp2_with fail
    refine (HD.out _).mono ?_
    rintro e w3 ⟨rfl, hF3⟩
    have HF3 := Lib.hid (HF2.out.then_ hF3)
    clear hF3
    go_wp2_with fail
    refine (HN2.out _ (HV.out.fr HF3.out)).mono ?_
    rintro e w4 ⟨rfl, hF4⟩
    have HF4 := Lib.hid (HF3.out.then_ hF4)
    clear hF4
    go_wp2
    go_ret
    exact ⟨rfl, HF4.out.to⟩
end Go.Proofs.YtdhlbdllidfenaaDoor.Nu
