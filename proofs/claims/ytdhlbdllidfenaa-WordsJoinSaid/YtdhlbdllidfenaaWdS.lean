/- Words: WordsJoin, walked. Conditions: none. -/
import Derived.Test.YtdhlbdllidfenaaWdR
import Derived.Test.YtdhlbdllidfenaaWdP
namespace Go.Proofs.Ytdhlbdllidfenaa.Wd
open Go.RowKit Go.Proofs.Ytdhlbdllidfenaa.Mem
set_option linter.unusedVariables false
set_option linter.unusedSimpArgs false
theorem lens_le : ∀ ws : List (List UInt8), Lib.lens (ws.map wrW) ≤ 4 * Lib.lens ws + 2 * ws.length
  | [] => by simp [Lib.lens]
  | x :: r => by
    have := lens_le r
    have h := wrW_len x
    simp only [Lib.lens, List.map_cons, List.sum_cons, List.length_cons] at this ⊢
    omega
theorem joinL_le (ws : List (List UInt8)) : (joinL ws).length ≤ 4 * Lib.lens ws + 3 * ws.length := by
  match ws with
  | [] => simp [joinL_nil]
  | y :: r =>
    have he : (joinL (y :: r)).length = 1 * r.length + Lib.lens ((y :: r).map wrW) := by
      unfold joinL
      rw [List.map_cons, Lib.join_length, List.length_map]; rfl
    have := lens_le (y :: r)
    rw [List.length_cons] at this ⊢
    omega
theorem lens_rev (ws : List (List UInt8)) : Lib.lens ws.reverse = Lib.lens ws := by
  unfold Lib.lens
  rw [List.map_reverse, List.sum_reverse]
theorem lens_mem0 : ∀ {ws : List (List UInt8)} {x : List UInt8}, x ∈ ws → x.length ≤ Lib.lens ws
  | y :: r, x, h => by
    have he : Lib.lens (y :: r) = y.length + Lib.lens r := by simp [Lib.lens]
    rcases List.mem_cons.1 h with rfl | h
    · omega
    · have := lens_mem0 h
      omega
set_option maxHeartbeats 4000000 in
set_option maxRecDepth 100000 in
theorem wJoined (g d : Nat) (A : Option Addr) (n c : Nat) (l : List (List UInt8)) (hl : l.length = n) (hb : n + Lib.lens l ≤ 2147483647) (w : World) (hL : Lent w g d l) (hT : TR Any w A l) :
    Calls Try.prog 13 #[.slice (some ⟨g, 0, none⟩) n d, .slice A n c] w fun e w' => e = .returned (.bool true) ∧ Fr No w w' := by
  have hj := joinL_le l
  have hx : ∀ x ∈ l, x.length ≤ 1000000000000 := fun x h => by have := lens_mem0 h; omega
  have H1 := Lib.hid (fun W (hW : Fr No w W) => wJoin (some ⟨g, 0, none⟩) n d l hl (by omega) hx (by omega) W ((hL.tr (D := Any) trivial).fr hW (fun _ _ _ q => q)))
  have H2 := Lib.hid (fun W (hW : Fr No w W) => rJoin A n c l hl (by omega) hx (by omega) W (hT.fr hW (fun _ _ _ q => q)))
  have H3 := Lib.hid (fun W (hW : Fr No w W) => wStill g d l n hl A c l hl (by omega) W (hL.fr hW id) (hT.fr hW (fun _ _ _ q => q)))
  obtain ⟨X, hX⟩ : ∃ X : ByteArray, (⟨(joinL l).toArray⟩ : ByteArray) = X := ⟨_, rfl⟩
  rw [hX] at H1 H2
  rw [show decide (l = l) = true from decide_eq_true rfl] at H3
  clear hX hx hj hL hT hl hb
  go_enter Try.func13, Try.ntmps13
  go_wp2_with fail
  refine (H1.out _ (Fr.refl _ _)).mono ?_
  rintro e w1 ⟨rfl, hF1⟩
  have HF1 := Lib.hid hF1
  clear hF1
  go_wp2_with fail
  refine (H2.out _ HF1.out).mono ?_
  rintro e w2 ⟨rfl, hF2⟩
  have HF2 := Lib.hid (HF1.out.then_ hF2)
  clear hF2
  go_wp2_with fail
  refine (H3.out _ HF2.out).mono ?_
  rintro e w3 ⟨rfl, hF3⟩
  have HF3 := Lib.hid (HF2.out.then_ hF3)
  clear hF3
  go_wp2
  go_ret
  exact ⟨rfl, HF3.out⟩
theorem infoS1 : (Try.prog.info? 9).map (·.size) = some 1 := by kernel_rfl
theorem Lent.swap {w : World} {g c : Nat} {l m : List (List UInt8)} {cur : List Value} {sp : List Value} (hl : m.length = l.length) (hcur : cur = (l ++ [mkS, mkS, mkS]).map sv ++ sp) (h : Bk w g 9 (splice cur 0 (m.map sv))) (h1 : l.length + 3 ≤ c) (h2 : c ≤ maxLen) (h3 : sp.length = c - (l.length + 3)) : Lent w g c m := by
  refine ⟨sp, ?_, by rw [hl]; exact h1, h2, by rw [hl]; exact h3⟩
  subst hcur
  have e : splice ((l ++ [mkS, mkS, mkS]).map sv ++ sp) 0 (m.map sv) = (m ++ [mkS, mkS, mkS]).map sv ++ sp := by
    unfold splice
    rw [List.take_zero, List.nil_append, Nat.zero_add, List.length_map, hl, List.map_append, List.map_append, List.append_assoc, List.drop_left' (by rw [List.length_map]), List.append_assoc]
  rw [← e]; exact h
set_option maxHeartbeats 8000000 in
set_option maxRecDepth 100000 in
theorem join_row (w : World) (A : Option Addr) (c : Nat) (l : List (List UInt8)) (hC : TR Any w A l ∧ ∀ x ∈ l, x.length ≤ 140737488351232) (hlc : l.length ≤ c) (hby : c * 16 ≤ 140737488351232) :
    Calls Try.prog 4 #[.slice A l.length c] w fun e w' => e = .returned (.bool true) ∧ Below w.heap.size w w' := by
  obtain ⟨hT, hx⟩ := hC
  obtain ⟨n, hl⟩ : ∃ n, l.length = n := ⟨_, rfl⟩
  rw [hl] at hlc ⊢
  have HBY := Lib.hid (fun W (hW : Fr No w W) => wBeyond A n c l hl (by omega) hx W (hT.fr hW (fun _ _ _ q => q)))
  have HT := Lib.hid hT
  have HL := Lib.hid hl
  cases hb : beyondL l with
  | true =>
    rw [hb] at HBY
    clear hb hT hl hx
    go_enter Try.func4, Try.ntmps4
    go_wp2_with fail
    refine (HBY.out _ (Fr.refl _ _)).mono ?_
    rintro e w1 ⟨rfl, hF1⟩
    go_wp2
    go_ret
    exact ⟨rfl, hF1.to⟩
  | false =>
    rw [hb] at HBY
    have hbb : n + Lib.lens l ≤ 2147483647 := by
      unfold beyondL at hb
      have := of_decide_eq_false hb
      omega
    have hj := joinL_le l
    have hx2 : ∀ x ∈ l, x.length ≤ 1000000000000 := fun x h => by have := lens_mem0 h; omega
    have hrl : l.reverse.length = n := by rw [List.length_reverse, hl]
    have HLE := Lib.hid (fun W (hW : Fr No w W) => wLent A n c l hl (by omega) W (hT.fr hW (fun _ _ _ q => q)))
    have HRO := Lib.hid (fun W (hW : Fr No w W) => wRound A n c l hl (by omega) W (hT.fr hW (fun _ _ _ q => q)))
    have HJO := Lib.hid (fun g d W (hL : Lent W g d l) => wJoin (some ⟨g, 0, none⟩) n d l hl (by omega) hx2 (by omega) W (hL.tr (D := Any) trivial))
    have HJD := Lib.hid (fun g d W (hW : Fr No w W) (hL : Lent W g d l) => wJoined g d A n c l hl hbb W hL (hT.fr hW (fun _ _ _ q => q)))
    have HJR := Lib.hid (fun g d W B e (hL : Lent W g d l.reverse) (hR : TR Any W B l.reverse) => wJoined g d B n e l.reverse hrl (by rw [lens_rev]; exact hbb) W hL hR)
    obtain ⟨X, hX⟩ : ∃ X : ByteArray, (⟨(joinL l).toArray⟩ : ByteArray) = X := ⟨_, rfl⟩
    have hbX : bs X = joinL l := by rw [← hX, bs_of]
    rw [hX] at HJO
    have HSP := Lib.hid (fun W => wSplit X W)
    have HB := Lib.hid (show splitL (bs X) = if 8192 < X.size then ([], 0, 160) else (l, 0, 0) by rw [← bs_len, hbX]; exact join_back l)
    have hnn : n ≤ 2147483647 := by omega
    have HRL := Lib.hid hrl
    clear hb hT hl hx hx2 hj hX hbX hbb hrl
    go_enter Try.func4, Try.ntmps4
    go_wp2_with fail
    refine (HBY.out _ (Fr.refl _ _)).mono ?_
    rintro e w1 ⟨rfl, hF1⟩
    have HF1 := Lib.hid hF1
    clear hF1
    go_wp2_with fail
    refine (HLE.out _ HF1.out).mono ?_
    rintro e w2 ⟨g, d, rfl, hL2, hF2, hg⟩
    have hgw : w.heap.size ≤ g := Nat.le_trans HF1.out.size hg
    have HGW := Lib.hid hgw
    have HF2 := Lib.hid (HF1.out.then_ hF2)
    have HL2 := Lib.hid hL2
    clear hF2 hL2 hg hgw
    go_wp2_with fail
    refine (HJO.out g d _ HL2.out).mono ?_
    rintro e w3 ⟨rfl, hF3⟩
    have HF3 := Lib.hid (HF2.out.then_ hF3)
    have HL3 := Lib.hid (HL2.out.fr hF3 id)
    clear hF3 HL2 HF2
    go_wp2_with fail
    refine (HJD.out g d _ HF3.out HL3.out).mono ?_
    rintro e w4 ⟨rfl, hF4⟩
    have HF4 := Lib.hid (HF3.out.then_ hF4)
    have HL4 := Lib.hid (HL3.out.fr hF4 id)
    clear hF4 HL3 HF3
    go_wp2_with fail
    refine (HJD.out g d _ HF4.out HL4.out).mono ?_
    rintro e w5 ⟨rfl, hF5⟩
    have HF5 := Lib.hid (HF4.out.then_ hF5)
    have HL5 := Lib.hid (HL4.out.fr hF5 id)
    clear hF5 HL4 HF4
    go_wp2_with fail
    refine (HRO.out _ HF5.out).mono ?_
    rintro e w6 ⟨B, eB, rb, rfl, hTB⟩
    have HF6 := Lib.hid (HF5.out.then_ hTB.2.1)
    have HL6 := Lib.hid (HL5.out.fr hTB.2.1 id)
    have HTB := Lib.hid (Row.tr (D := Any) (hTB.row HRL.out (Fr.refl No w6)) (fun _ _ => trivial))
    clear hTB HL5 HF5
    obtain ⟨sp, hB6, hl1, hl2, hl3⟩ := HL6.out
    rw [HL.out] at hl1 hl3
    have HB6 := Lib.hid hB6
    have HSPL := Lib.hid hl3
    clear hB6 hl3
    go_wp2_with (refine wl_copy w6 rfl (.tmp 24) (.tmp 26) 22 22 rfl 9 Try.underlying22 infoS1 g 0 n d B n eB rfl rfl 9 _ HB6.out (l.reverse.map sv) (by rw [List.length_map, HRL.out]; exact (Nat.min_self n).symm) (fun h => HTB.out.cells (by rw [List.length_map] at h; exact h)) (by rw [List.length_map, HRL.out, List.length_append, List.length_map, List.length_append, HL.out]; omega) (sv_one _) ?_; intro w7 hB7 hF7)
    have HL7 := Lib.hid (Lent.swap (m := l.reverse) (l := l) (sp := sp) (c := d) (by rw [HL.out]; exact HRL.out) rfl hB7 (by rw [HL.out]; exact hl1) hl2 (by rw [HL.out]; exact HSPL.out))
    have HF7 := Lib.hid (HF6.out.trans (S := No) (S' := fun k => k = g) hF7 (fun k hk e => by subst e; have := HGW.out; omega))
    clear hB7 hF7 HB6 HTB HF6 HL6
    go_wp2_with fail
    refine (HRO.out _ HF7.out).mono ?_
    rintro e w8 ⟨B2, eB2, rb2, rfl, hTB⟩
    have HF8 := Lib.hid (HF7.out.then_ hTB.2.1)
    have HL8 := Lib.hid (HL7.out.fr hTB.2.1 id)
    have HTB := Lib.hid (Row.tr (D := Any) (hTB.row HRL.out (Fr.refl No w8)) (fun _ _ => trivial))
    clear hTB HL7 HF7
    go_wp2_with fail
    refine (HJR.out g d _ B2 eB2 HL8.out HTB.out).mono ?_
    rintro e w9 ⟨rfl, hF9⟩
    have HF9 := Lib.hid (HF8.out.then_ hF9)
    clear hF9 HL8 HTB HF8
    go_wp2_with fail
    refine (HSP.out _).mono ?_
    rw [HB.out]
    by_cases h8 : 8192 < X.size
    · rw [if_pos h8]
      rintro e w10 ⟨A3, c3, rb3, rfl, _, hF10, _⟩
      have HF10 := Lib.hid (HF9.out.then_ hF10)
      have d8 : decide ((8192 : Int) < (X.size : Int)) = true := decide_eq_true (by omega)
      have d8' : decide (8192 < X.size) = true := decide_eq_true h8
      clear hF10
      dsimp only
      go_wp2
      go_ret
      exact ⟨rfl, HF10.out.to⟩
    · rw [if_neg h8]
      rintro e w10 ⟨A3, c3, rb3, rfl, hrow, hF10, _⟩
      have HF10 := Lib.hid (HF9.out.then_ hF10)
      have d8 : decide ((8192 : Int) < (X.size : Int)) = false := decide_eq_false (by omega)
      have d8' : decide (8192 < X.size) = false := decide_eq_false h8
      dsimp only at hrow ⊢
      rw [HL.out] at hrow ⊢
      have HTX := Lib.hid (wTexts A3 A n c3 n c l l HL.out HL.out (by omega) w10 (Row.tr (D := Any) hrow (fun _ _ => trivial)) (HT.out.fr HF10.out (fun _ _ _ q => q)))
      rw [show decide (l = l) = true from decide_eq_true rfl] at HTX
      clear hF10 hrow
      go_wp2_with fail
      refine HTX.out.mono ?_
      rintro e w11 ⟨rfl, hF11⟩
      have HF11 := Lib.hid (HF10.out.then_ hF11)
      clear hF11
      go_wp2
      go_ret
      exact ⟨rfl, HF11.out.to⟩
end Go.Proofs.Ytdhlbdllidfenaa.Wd
