/- Seal and Open, of the program and of the document, in one form. Conditions: none. -/
import Derived.Test.YtfpjdgkooikeoaaDoorHelB
namespace Go.Proofs.YtfpjdgkooikeoaaDoor.Sl
open Go.RowKit Go.Proofs.YtfpjdgkooikeoaaDoor.Mem
set_option linter.unusedVariables false
set_option linter.unusedSimpArgs false
/-- an answer: a list in memory of its own, and an error -/
def Ans (w w' : World) (q : List UInt8) (E : Int) (e : Ending) : Prop := ∃ A c rb, e = .returned (.tuple #[.slice A q.length c, .int .i64 E]) ∧ Row w' 5 1 rb (.slice A q.length c) q.length (bv q) ∧ (∀ k, rb = some k → w.heap.size ≤ k) ∧ Fr No w w'
def sE (p : List UInt8) : Int := if 65536 < p.length then 20 else 0
def sP (p : List UInt8) : List UInt8 := if 65536 < p.length then [] else sealL p
theorem ans_nil {w w' : World} {q : List UInt8} {E k : Int} (hq : q = []) (hE : E = k) (hF : Fr No w w') : Ans w w' q E (.returned (.tuple #[.slice none 0 0, .int .i64 k])) := by
  subst hq hE
  exact ⟨none, 0, none, rfl, Row.nil _ _ _, (fun k h => by cases h), hF⟩
theorem pSeal (A : Option Addr) (c : Nat) (p : List UInt8) (w : World) (hn : p.length ≤ 4611686018427387904) (hA : BR Any w A p) (hT : Tab w) : Calls Tryd.prog 18 #[.slice A p.length c] w fun e w' => Ans w w' (sP p) (sE p) e := by
  by_cases h : 65536 < p.length
  · refine (sSeal_long A p.length c w h hn).mono ?_
    rintro e w' ⟨rfl, rfl⟩
    exact ans_nil (by unfold sP; rw [if_pos h]) (by unfold sE; rw [if_pos h]) (Fr.refl _ _)
  · refine (sSeal A p.length c p w rfl (by omega) hA hT).mono ?_
    rintro e w' ⟨g, rfl, hg, hB, hF⟩
    have e1 : sP p = sealL p := by unfold sP; rw [if_neg h]
    have e2 : sE p = 0 := by unfold sE; rw [if_neg h]
    rw [e1, e2]
    have hl : (sealL p).length = p.length + 13 := sealL_len p
    have hr := Row.made (n := p.length + 13) (size := 1) hB (by simp [bv, hl]) (by unfold maxLen; omega)
    exact ⟨some ⟨g, 0, none⟩, p.length + 13, some g, by rw [hl], by rw [hl]; exact hr, (fun k h => by cases h; exact hg), hF⟩
theorem pOpen (A : Option Addr) (c : Nat) (b : List UInt8) (w : World) (hn : b.length ≤ 4611686018427387904) (hc : b.length ≤ c) (hA : BR Any w A b) (hT : Tab w) : Calls Tryd.prog 17 #[.slice A b.length c] w fun e w' => Ans w w' (openP b) (openE b) e :=
  (sOpen A b.length c b w rfl hn hc hA hT).mono fun _ _ h => h
theorem and255i (X : Nat) (h : X < 4294967296) : bits .and .i64 (X : Int) 255 = ((X % 256 : Nat) : Int) := by
  show IntKind.i64.wrap ((BitVec.ofInt 64 (X : Int) &&& BitVec.ofInt 64 255).toNat : Int) = _
  rw [BitVec.ofInt_natCast, BitVec.toNat_and, show (BitVec.ofInt 64 255).toNat = 2 ^ 8 - 1 from rfl, Nat.and_two_pow_sub_one_eq_mod, BitVec.toNat_ofNat]
  rw [show X % 2 ^ 64 % 2 ^ 8 = X % 256 by omega]
  exact IntWalk.i64_in _ (by omega)
theorem head_and (n : Nat) (hn : n ≤ 65536) : ∃ a b c : Nat, bv (headL n) = [.int .u8 70, .int .u8 76, .int .u8 (a : Int), .int .u8 (b : Int), .int .u8 (c : Int)] ∧ bits .and .i64 (n : Int) 255 = (a : Int) ∧ bits .and .i64 ((n : Int) / 256) 255 = (b : Int) ∧ bits .and .i64 ((n : Int) / 65536) 255 = (c : Int) ∧ (a : Int) % 256 = (a : Int) ∧ (b : Int) % 256 = (b : Int) ∧ (c : Int) % 256 = (c : Int) := by
  have h1 := and255i n (by omega)
  have h2 := and255i (n / 256) (by omega)
  have h3 := and255i (n / 65536) (by omega)
  have e2 : ((n / 256 : Nat) : Int) = (n : Int) / 256 := by omega
  have e3 : ((n / 65536 : Nat) : Int) = (n : Int) / 65536 := by omega
  rw [e2] at h2
  rw [e3] at h3
  have q1 : n % 256 < 256 := Nat.mod_lt _ (by omega)
  have q2 : n / 256 % 256 < 256 := Nat.mod_lt _ (by omega)
  have q3 : n / 65536 % 256 < 256 := Nat.mod_lt _ (by omega)
  refine ⟨_, _, _, rfl, ?_, ?_, ?_, ?_, ?_, ?_⟩
  · rw [ofNat_u8 _ q1]; exact h1
  · rw [ofNat_u8 _ q2]; exact h2
  · rw [ofNat_u8 _ q3]; exact h3
  all_goals first | rw [ofNat_u8 _ q1] | rw [ofNat_u8 _ q2] | rw [ofNat_u8 _ q3]
  all_goals omega
theorem take_sum (p : List UInt8) (k : Nat) (h : k < 4) : (sumB p).take (k + 1) = (sumB p).take k ++ [byteAt (crcL p) k] := by
  unfold sumB
  rw [four_at]
  match k, h with
  | 0, _ | 1, _ | 2, _ | 3, _ => rfl
set_option maxHeartbeats 4000000 in
set_option maxRecDepth 100000 in
theorem dSeal (A : Option Addr) (c : Nat) (p : List UInt8) (w : World) (hn : p.length ≤ 4611686018427387904) (hA : BR Any w A p) : Calls Tryd.prog 40 #[.slice A p.length c] w fun e w' => Ans w w' (sP p) (sE p) e := by
  obtain ⟨n, hnn⟩ : ∃ n, p.length = n := ⟨_, rfl⟩
  have HL := Lib.hid hnn
  have HA := Lib.hid hA
  by_cases h : 65536 < n
  · have HP := Lib.hid (show sP p = [] by unfold sP; rw [if_pos (by omega)])
    have HE := Lib.hid (show sE p = 20 by unfold sE; rw [if_pos (by omega)])
    have d0 : decide ((65536 : Int) < (n : Int)) = true := decide_eq_true (by omega)
    have d0' : decide (65536 < n) = true := decide_eq_true h
    rw [hnn] at hn ⊢
    clear hnn hA
    go_enter Tryd.func40, Tryd.ntmps40
    go_wp2
    go_ret2
    exact ans_nil HP.out HE.out (Fr.refl _ _)
  · have HP := Lib.hid (show sP p = sealL p by unfold sP; rw [if_neg (by omega)])
    have HE := Lib.hid (show sE p = 0 by unfold sE; rw [if_neg (by omega)])
    have d0 : decide ((65536 : Int) < (n : Int)) = false := decide_eq_false (by omega)
    have d0' : decide (65536 < n) = false := decide_eq_false h
    rw [hnn] at hn ⊢
    obtain ⟨x2, x3, x4, hhd, e2, e3, e4, m2, m3, m4⟩ := head_and n (by omega)
    have HH := Lib.hid hhd
    obtain ⟨w1, hw1⟩ : ∃ w1, w.alloc (.cells #[.int .u8 70, .int .u8 76, .int .u8 (x2 : Int), .int .u8 (x3 : Int), .int .u8 (x4 : Int)] 5 (0, 0)) = w1 := ⟨_, rfl⟩
    have hF1 : Fr No w w1 := by rw [← hw1]; exact (Fr.refl _ _).alloc _
    have hB1 : Bk w1 w.heap.size 5 (bv (headL n)) := by rw [← hw1, hhd]; exact Bk.new _ _ _
    have HR1 := Lib.hid (show Row w1 5 1 (some w.heap.size) (.slice (some ⟨w.heap.size, 0, none⟩) (5 + 0) 5) (5 + 0) (bv (headL n ++ (sumB (headL n)).take 0)) by
      have := Row.made (n := 5) (size := 1) hB1 (by simp [bv, headL]) (by unfold maxLen; omega)
      simpa using this)
    have HF1 := Lib.hid hF1
    have HS1 := Lib.hid (rSum (some ⟨w.heap.size, 0, none⟩) 5 5 (headL n) w1 rfl (by omega) (BR.of_block' hB1))
    have HN1 := Lib.hid (show ∀ k, some w.heap.size = some k → w.heap.size ≤ k from fun k h => by cases h; exact Nat.le_refl _)
    clear hnn hA hhd hF1 hB1
    go_enter Tryd.func40, Tryd.ntmps40
    go_wp2_with fail
    refine HS1.out.mono ?_
    rintro e w2 ⟨rfl, rfl⟩
    clear hw1 HS1 e2 e3 e4 m2 m3 m4
    obtain ⟨g, hg⟩ : ∃ g, w.heap.size = g := ⟨_, rfl⟩
    have HG := Lib.hid hg
    rw [hg] at HR1 HN1 ⊢
    clear hg
    go_wp2
    go_loopw [5, 7] (fun o i wr => ∃ (k : Nat) (A' : Option Addr) (c' : Nat) (rb : Option Nat), k ≤ 4 ∧ i = .int .i64 (k : Int) ∧ o = .slice A' (5 + k) c' ∧ Hid (Row wr 5 1 rb (.slice A' (5 + k) c') (5 + k) (bv (headL n ++ (sumB (headL n)).take k))) ∧ Hid (∀ q, rb = some q → g ≤ q) ∧ Hid (Fr No w wr)) (fun _ i _ => 4 - (intOf i).toNat)
    case atStart => exact ⟨0, some ⟨g, 0, none⟩, 5, some g, by omega, rfl, rfl, HR1, HN1, HF1⟩
    case round =>
      clear HR1 HN1 HF1
      obtain ⟨k, A', c', rb, hk, rfl, rfl, HR, HN, HF⟩ := hrel
      by_cases hlt : k < 4
      · have dk : decide ((k : Int) < 4) = true := decide_eq_true (by omega)
        have hw : IntKind.i64.wrap ((k : Int) + 1) = (k : Int) + 1 := IntWalk.i64_in _ (by omega)
        have HSB := Lib.hid (fun W => rsumByte (crcL (headL n)) k hlt W)
        have HTK := Lib.hid (take_sum (headL n) k hlt)
        generalize byteAt (crcL (headL n)) k = y at *
        have hF2 : Fr No wr (wr.alloc (.cells #[.int .u8 (y.toNat : Int)] 5 (0, 0))) := (Fr.refl _ _).alloc _
        have HR2 := Lib.hid (HR.out.fr hF2 (fun _ _ q => q))
        have HF2 := Lib.hid (HF.out.then_ hF2)
        have HNEW := Lib.hid (fun (_ : 0 < 1) => show ∃ ad, some (⟨wr.heap.size, 0, none⟩ : Addr) = some ad ∧ ∀ (j : Nat) (u : Value), [Value.int .u8 (y.toNat : Int)][j]? = some u → (wr.alloc (.cells #[.int .u8 (y.toNat : Int)] 5 (0, 0))).cell? (ad.add j) = some u from
          ⟨_, rfl, fun j u hj => by rw [add0]; exact ((Bk.new wr 5 [Value.int .u8 (y.toNat : Int)]).cell j).trans hj⟩)
        clear hF2 HR HF
        go_wp2_with fail
        refine (HSB.out _).mono ?_
        rintro e w3 ⟨rfl, rfl⟩
        go_wp2_with (at_builtin; refine wl_append _ rfl (.tmp 32) (.tmp 36) 22 rfl 5 _ 1 1 Tryd.underlying22 info8 rfl (by decide) rb _ (5 + k) (bv (headL n ++ (sumB (headL n)).take k)) rfl HR2.out (some ⟨w3.heap.size, 0, none⟩) 1 1 [Value.int .u8 (y.toNat : Int)] rfl rfl HNEW.out (by simp [Value.oneCell']) (by unfold maxLen; omega) (by omega) ?_; intro A6 c6 w6 rb6 hrow6 hF7 hnb6)
        have HR3 := Lib.hid (show Row w6 5 1 rb6 (.slice A6 (5 + (k + 1)) c6) (5 + (k + 1)) (bv (headL n ++ (sumB (headL n)).take (k + 1))) by
          rw [HTK.out, ← List.append_assoc, bv_append]
          exact hrow6)
        have HF3 := Lib.hid (HF2.out.trans hF7 (fun q hq hk => by have := HN.out q hk; have := HG.out; omega))
        have HN3 : Hid (∀ q, rb6 = some q → g ≤ q) := fun q hq => by
          rcases hnb6 with h | ⟨q', h, hle⟩
          · exact HN.out q (by rw [← h]; exact hq)
          · rw [h] at hq
            cases hq
            have h1 := HF2.out.size
            have h2 := HG.out
            omega
        clear hrow6 hF7 hnb6 HR2 HF2 HNEW HN HTK
        go_wp2
        go_roundw
        case rel => exact ⟨k + 1, A6, c6, rb6, by omega, by go_num, rfl, HR3, HN3, HF3⟩
        case measure => simp [intOf]; omega
      · obtain rfl : k = 4 := by omega
        have dk : decide (((4 : Nat) : Int) < 4) = false := decide_eq_false (by omega)
        have HR0 := Lib.hid (show Row wr 5 1 rb (.slice A' 9 c') 9 (bv (headL n ++ sumB (headL n))) from HR.out)
        have HC := Lib.hid (show 0 < n → ∃ ad, A = some ad ∧ ∀ j u, (bv p)[j]? = some u → wr.cell? (ad.add j) = some u from fun h => (HA.out.fr HF.out (fun _ _ _ q => q)).cells (by rw [HL.out]; exact h))
        clear HR
        go_wp2_with (at_builtin; refine wl_append _ rfl (.tmp 38) (.tmp 39) 22 rfl 5 _ 1 1 Tryd.underlying22 info8 rfl (by decide) rb _ 9 (bv (headL n ++ sumB (headL n))) rfl HR0.out A n c (bv p) rfl (by rw [bv_len, HL.out, Nat.mul_one]) HC.out (bv_one p) (by unfold maxLen; omega) (by omega) ?_; intro A5 c5 w5 rb5 hrow5 hF5 hnb5)
        have HRX := Lib.hid (show Row w5 5 1 rb5 (.slice A5 (9 + n + 0) c5) (9 + n + 0) (bv (headL n ++ sumB (headL n) ++ p ++ (sumB p).take 0)) by
          rw [List.take_zero, List.append_nil, bv_append]
          exact hrow5)
        have HF5 := Lib.hid (HF.out.trans hF5 (fun q hq hk => by have := HN.out q hk; have := HG.out; omega))
        have HN5 : Hid (∀ q, rb5 = some q → g ≤ q) := fun q hq => by
          rcases hnb5 with h | ⟨q', h, hle⟩
          · exact HN.out q (by rw [← h]; exact hq)
          · rw [h] at hq
            cases hq
            have h1 := HF.out.size
            have h2 := HG.out
            omega
        have HSP := Lib.hid (rSum A n c p w5 HL.out (by omega) (HA.out.fr HF5.out (fun _ _ _ q => q)))
        obtain ⟨N, hN⟩ : ∃ N, 9 + n = N := ⟨_, rfl⟩
        have HNE := Lib.hid hN
        have hN6 : N ≤ 70000 := by omega
        obtain ⟨Y, hY⟩ : ∃ Y, headL n ++ sumB (headL n) ++ p = Y := ⟨_, rfl⟩
        have HY := Lib.hid hY
        rw [hN, hY] at HRX
        rw [hN]
        clear hrow5 hF5 hnb5 HR0 HC HF HN hN hY
        refine HSP.out.mono ?_
        rintro e w6 ⟨rfl, rfl⟩
        clear HSP
        go_wp2
        go_loopw [5, 8] (fun o i wr => ∃ (k : Nat) (A' : Option Addr) (c' : Nat) (rb : Option Nat), k ≤ 4 ∧ i = .int .i64 (k : Int) ∧ o = .slice A' (N + k) c' ∧ Hid (Row wr 5 1 rb (.slice A' (N + k) c') (N + k) (bv (Y ++ (sumB p).take k))) ∧ Hid (∀ q, rb = some q → g ≤ q) ∧ Hid (Fr No w wr)) (fun _ i _ => 4 - (intOf i).toNat)
        case atStart => exact ⟨0, A5, c5, rb5, by omega, rfl, rfl, HRX, HN5, HF5⟩
        case round =>
          clear HRX HN5 HF5
          obtain ⟨k, A', c', rb, hk, rfl, rfl, HR, HN, HF⟩ := hrel
          by_cases hlt : k < 4
          · have dk2 : decide ((k : Int) < 4) = true := decide_eq_true (by omega)
            have hw : IntKind.i64.wrap ((k : Int) + 1) = (k : Int) + 1 := IntWalk.i64_in _ (by omega)
            have HSB := Lib.hid (fun W => rsumByte (crcL p) k hlt W)
            have HTK := Lib.hid (take_sum p k hlt)
            generalize byteAt (crcL p) k = y at *
            have hF2 : Fr No wr (wr.alloc (.cells #[.int .u8 (y.toNat : Int)] 5 (0, 0))) := (Fr.refl _ _).alloc _
            have HR2 := Lib.hid (HR.out.fr hF2 (fun _ _ q => q))
            have HF2 := Lib.hid (HF.out.then_ hF2)
            have HNEW := Lib.hid (fun (_ : 0 < 1) => show ∃ ad, some (⟨wr.heap.size, 0, none⟩ : Addr) = some ad ∧ ∀ (j : Nat) (u : Value), [Value.int .u8 (y.toNat : Int)][j]? = some u → (wr.alloc (.cells #[.int .u8 (y.toNat : Int)] 5 (0, 0))).cell? (ad.add j) = some u from
              ⟨_, rfl, fun j u hj => by rw [add0]; exact ((Bk.new wr 5 [Value.int .u8 (y.toNat : Int)]).cell j).trans hj⟩)
            clear hF2 HR HF
            go_wp2_with fail
            refine (HSB.out _).mono ?_
            rintro e w3 ⟨rfl, rfl⟩
            go_wp2_with (at_builtin; refine wl_append _ rfl (.tmp 47) (.tmp 51) 22 rfl 5 _ 1 1 Tryd.underlying22 info8 rfl (by decide) rb _ (N + k) (bv (Y ++ (sumB p).take k)) rfl HR2.out (some ⟨w3.heap.size, 0, none⟩) 1 1 [Value.int .u8 (y.toNat : Int)] rfl rfl HNEW.out (by simp [Value.oneCell']) (by unfold maxLen; omega) (by omega) ?_; intro A6 c6 w6 rb6 hrow6 hF7 hnb6)
            have HR3 := Lib.hid (show Row w6 5 1 rb6 (.slice A6 (N + (k + 1)) c6) (N + (k + 1)) (bv (Y ++ (sumB p).take (k + 1))) by
              rw [HTK.out, ← List.append_assoc, bv_append]
              exact hrow6)
            have HF3 := Lib.hid (HF2.out.trans hF7 (fun q hq hk => by have := HN.out q hk; have := HG.out; omega))
            have HN3 : Hid (∀ q, rb6 = some q → g ≤ q) := fun q hq => by
              rcases hnb6 with h | ⟨q', h, hle⟩
              · exact HN.out q (by rw [← h]; exact hq)
              · rw [h] at hq
                cases hq
                have h1 := HF2.out.size
                have h2 := HG.out
                omega
            clear hrow6 hF7 hnb6 HR2 HF2 HNEW HN HTK
            go_wp2
            go_roundw
            case rel => exact ⟨k + 1, A6, c6, rb6, by omega, by go_num, rfl, HR3, HN3, HF3⟩
            case measure => simp [intOf]; omega
          · obtain rfl : k = 4 := by omega
            have dk2 : decide (((4 : Nat) : Int) < 4) = false := decide_eq_false (by omega)
            go_wp2
            go_ret2
            have hq : sP p = Y ++ sumB p := by rw [HP.out, ← HY.out, ← HL.out]; rfl
            have hql : (sP p).length = N + 4 := by rw [HP.out, sealL_len, HL.out, ← HNE.out]; omega
            refine ⟨A', c', rb, by rw [hql, HE.out]; rfl, ?_, (fun q hq => by rw [HG.out]; exact HN.out q hq), HF.out⟩
            rw [hql, hq]
            exact HR.out
end Go.Proofs.YtfpjdgkooikeoaaDoor.Sl
