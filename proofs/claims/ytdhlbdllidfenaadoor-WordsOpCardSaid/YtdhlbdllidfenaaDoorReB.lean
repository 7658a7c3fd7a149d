/- Words: is a result one that may be; the codes' words; where a word stands in a list; words put behind others: walked. Conditions: none. -/
import Derived.Test.YtdhlbdllidfenaaDoorReA
import Derived.Test.YtdhlbdllidfenaaDoorWdS
import Derived.Test.YtdhlbdllidfenaaDoorNuC
namespace Go.Proofs.YtdhlbdllidfenaaDoor.Wd
open Go.RowKit Go.Proofs.YtdhlbdllidfenaaDoor.Mem
open Go.Proofs.YtdhlbdllidfenaaDoor.Nu (numL numE wNumber rNumber Vs num_dec num_is)
set_option linter.unusedVariables false
set_option linter.unusedSimpArgs false
def RV.v (x : RV) (A : Option Addr) (n c : Nat) : Value := .agg #[.int .i64 x.code, .int .i64 x.num, .slice A n c]
theorem chk_cases (code num : Int) (items : List (List UInt8)) (n : Nat) (hl : items.length = n) :
    (decide (code < 0) = true ∧ chkR ⟨code, num, items⟩ = 50) ∨
    (decide (code < 0) = false ∧ decide (4 < code) = true ∧ chkR ⟨code, num, items⟩ = 50) ∨
    (decide (code < 0) = false ∧ decide (4 < code) = false ∧ (code != 0) = true ∧ (num != 0) = true ∧ chkR ⟨code, num, items⟩ = 55) ∨
    (decide (code < 0) = false ∧ decide (4 < code) = false ∧ (code != 0) = true ∧ (num != 0) = false ∧ decide ((0 : Int) < (n : Int)) = true ∧ decide (0 < n) = true ∧ chkR ⟨code, num, items⟩ = 55) ∨
    (decide (code < 0) = false ∧ decide (4 < code) = false ∧ (code != 0) = false ∧ decide (num < 0) = true ∧ chkR ⟨code, num, items⟩ = 53) ∨
    (decide (code < 0) = false ∧ decide (4 < code) = false ∧ (code != 0) = false ∧ decide (num < 0) = false ∧ decide (1099511627776 < num) = true ∧ chkR ⟨code, num, items⟩ = 53) ∨
    (decide (code < 0) = false ∧ decide (4 < code) = false ∧ (code != 0) = false ∧ decide (num < 0) = false ∧ decide (1099511627776 < num) = false ∧ decide ((8 : Int) < (n : Int)) = true ∧ decide (8 < n) = true ∧ chkR ⟨code, num, items⟩ = 54) ∨
    (decide (code < 0) = false ∧ decide (4 < code) = false ∧ (code != 0) = true ∧ (num != 0) = false ∧ decide (num < 0) = false ∧ decide (1099511627776 < num) = false ∧ decide ((0 : Int) < (n : Int)) = false ∧ decide (0 < n) = false ∧ decide ((8 : Int) < (n : Int)) = false ∧ decide (8 < n) = false ∧ chkR ⟨code, num, items⟩ = if longB items = true then 52 else 0) ∨
    (decide (code < 0) = false ∧ decide (4 < code) = false ∧ (code != 0) = false ∧ decide (num < 0) = false ∧ decide (1099511627776 < num) = false ∧ decide ((8 : Int) < (n : Int)) = false ∧ decide (8 < n) = false ∧ chkR ⟨code, num, items⟩ = if longB items = true then 52 else 0) := by
  have hnum : (num != 0) = true ↔ num ≠ 0 := bne_iff_ne
  have hcode : (code != 0) = true ↔ code ≠ 0 := bne_iff_ne
  simp only [decide_eq_true_eq, decide_eq_false_iff_not, hnum, hcode, ← Bool.not_eq_true]
  unfold chkR
  dsimp only
  rw [hl]
  by_cases h1 : code < 0
  · exact .inl ⟨h1, by rw [if_pos (.inl h1)]⟩
  by_cases h2 : 4 < code
  · exact .inr (.inl ⟨h1, h2, by rw [if_pos (.inr h2)]⟩)
  rw [if_neg (by omega)]
  by_cases h3 : code = 0
  · rw [if_neg (fun q => q.1 h3)]
    have h3' : ¬ code ≠ 0 := fun q => q h3
    by_cases h4 : num < 0
    · exact .inr (.inr (.inr (.inr (.inl ⟨h1, h2, h3', h4, by rw [if_pos (.inl h4)]⟩))))
    by_cases h5 : 1099511627776 < num
    · exact .inr (.inr (.inr (.inr (.inr (.inl ⟨h1, h2, h3', h4, h5, by rw [if_pos (.inr h5)]⟩)))))
    rw [if_neg (by omega)]
    by_cases h6 : 8 < n
    · exact .inr (.inr (.inr (.inr (.inr (.inr (.inl ⟨h1, h2, h3', h4, h5, by omega, h6, by rw [if_pos h6]⟩))))))
    · rw [if_neg h6]
      exact .inr (.inr (.inr (.inr (.inr (.inr (.inr (.inr ⟨h1, h2, h3', h4, h5, by omega, h6, rfl⟩)))))))
  · by_cases h4 : num = 0
    · by_cases h5 : 0 < n
      · exact .inr (.inr (.inr (.inl ⟨h1, h2, h3, fun q => q h4, by omega, h5, by rw [if_pos ⟨h3, .inr h5⟩]⟩)))
      · rw [if_neg (fun q => by rcases q.2 with q | q; exact q h4; exact h5 q), if_neg (by omega), if_neg (by omega)]
        exact .inr (.inr (.inr (.inr (.inr (.inr (.inr (.inl ⟨h1, h2, h3, fun q => q h4, by omega, by omega, by omega, h5, by omega, by omega, rfl⟩)))))))
    · exact .inr (.inr (.inl ⟨h1, h2, h3, h4, by rw [if_pos ⟨h3, .inl h4⟩]⟩))
theorem long_more {l : List (List UInt8)} {k : Nat} (hk : k < l.length) : longB (l.take (k + 1)) = (longB (l.take k) || decide (64 < l[k].length)) := by
  unfold longB
  rw [List.take_succ_eq_append_getElem hk, List.any_append]
  simp
theorem long_of {l : List (List UInt8)} {k : Nat} (hk : k < l.length) (h : 64 < l[k].length) : longB l = true := List.any_eq_true.2 ⟨l[k], List.getElem_mem hk, decide_eq_true h⟩
theorem sv_size {x : List UInt8} {X : ByteArray} (h : (⟨x.toArray⟩ : ByteArray) = X) : X.size = x.length := by rw [← h, ← bs_len, bs_of]

set_option maxHeartbeats 4000000 in
set_option maxRecDepth 100000 in
theorem wChkR (x : RV) (A : Option Addr) (n c : Nat) (hl : x.items.length = n) (hn : n ≤ 8796093022000) (w : World) (hT : TR Any w A x.items) :
    Calls Tryd.prog 36 #[x.v A n c] w fun e w' => e = .returned (.int .i64 (chkR x)) ∧ Fr No w w' := by
  obtain ⟨code, num, items⟩ := x
  unfold RV.v
  dsimp only at *
  have HT := Lib.hid hT
  have HL := Lib.hid hl
  clear hT
  rcases chk_cases code num items n hl with ⟨a1, he⟩ | ⟨a1, a2, he⟩ | ⟨a1, a2, a3, a4, he⟩ | ⟨a1, a2, a3, a4, a5, a6, he⟩ | ⟨a1, a2, a3, a4, he⟩ | ⟨a1, a2, a3, a4, a5, he⟩ | ⟨a1, a2, a3, a4, a5, a6, a7, he⟩ | ⟨a1, a2, a3, a4, a5, a6, a7, a8, a9, a10, he⟩ | ⟨a1, a2, a3, a4, a5, a6, a7, he⟩
  · have HE := Lib.hid he
    clear hl he
    go_enter Tryd.func36, Tryd.ntmps36
    go_wp2
    go_ret
    exact ⟨by rw [HE.out]; rfl, (Fr.refl _ _).alloc _⟩
  · have HE := Lib.hid he
    clear hl he
    go_enter Tryd.func36, Tryd.ntmps36
    go_wp2
    go_ret
    exact ⟨by rw [HE.out]; rfl, (Fr.refl _ _).alloc _⟩
  · have HE := Lib.hid he
    clear hl he
    go_enter Tryd.func36, Tryd.ntmps36
    go_wp2
    go_ret
    exact ⟨by rw [HE.out]; rfl, (Fr.refl _ _).alloc _⟩
  · have HE := Lib.hid he
    clear hl he
    go_enter Tryd.func36, Tryd.ntmps36
    go_wp2
    go_ret
    exact ⟨by rw [HE.out]; rfl, (Fr.refl _ _).alloc _⟩
  · have HE := Lib.hid he
    clear hl he
    go_enter Tryd.func36, Tryd.ntmps36
    go_wp2
    go_ret
    exact ⟨by rw [HE.out]; rfl, (Fr.refl _ _).alloc _⟩
  · have HE := Lib.hid he
    clear hl he
    go_enter Tryd.func36, Tryd.ntmps36
    go_wp2
    go_ret
    exact ⟨by rw [HE.out]; rfl, (Fr.refl _ _).alloc _⟩
  · have HE := Lib.hid he
    clear hl he
    go_enter Tryd.func36, Tryd.ntmps36
    go_wp2
    go_ret
    exact ⟨by rw [HE.out]; rfl, (Fr.refl _ _).alloc _⟩
  · have HE := Lib.hid he
    obtain ⟨R, hR⟩ : ∃ R, chkR ⟨code, num, items⟩ = R := ⟨_, rfl⟩
    rw [hR] at HE ⊢
    have HW := Lib.hid (show Fr No w (w.alloc (.cells #[.int .i64 code, .int .i64 num, .slice A n c] 28 (0, 0))) from (Fr.refl _ _).alloc _)
    have HB0 := Lib.hid (Bk.new w 28 [.int .i64 code, .int .i64 num, .slice A n c])
    clear hl he hR
    go_enter Tryd.func36, Tryd.ntmps36
    go_wp2
    go_loopw [46] (fun i wr => ∃ k : Nat, k ≤ n ∧ i = .int .i64 (k : Int) ∧ Hid (longB (items.take k) = false) ∧ Hid (Fr No w wr)) (fun i _ => n - (intOf i).toNat)
    case atStart => exact ⟨0, Nat.zero_le _, rfl, rfl, HW⟩
    case round =>
      clear HW HB0
      obtain ⟨k, hk, rfl, HNL, HF⟩ := hrel
      have hw : IntKind.i64.wrap ((k : Int) + 1) = (k : Int) + 1 := IntWalk.i64_in _ (by omega)
      by_cases hlt : k < n
      · have hki : (k : Int) < (n : Int) := by omega
        have dk : decide ((k : Int) < (n : Int)) = true := decide_eq_true hki
        have dk' : decide (k < n) = true := decide_eq_true hlt
        have hkl : k < items.length := by rw [HL.out]; exact hlt
        obtain ⟨ad, hA, ca⟩ := (HT.out.fr HF.out (fun _ _ _ q => q)).at_ k hkl
        subst hA
        have HM := Lib.hid (long_more hkl)
        have HLO := Lib.hid (fun h => long_of hkl h)
        generalize items[k] = u at *
        unfold sv at ca
        obtain ⟨X, hX⟩ : ∃ X : ByteArray, (⟨u.toArray⟩ : ByteArray) = X := ⟨_, rfl⟩
        have hs := sv_size hX
        rw [hX] at ca
        rw [← hs] at HM HLO
        clear hX hs hkl
        by_cases h64 : 64 < X.size
        · have b1 : decide ((64 : Int) < (X.size : Int)) = true := decide_eq_true (by omega)
          have b1' : decide (64 < X.size) = true := decide_eq_true h64
          have HV := Lib.hid (show R = 52 by rw [HE.out, HLO.out h64]; rfl)
          go_wp2
          go_ret
          exact ⟨by rw [HV.out]; rfl, HF.out⟩
        · have b1 : decide ((64 : Int) < (X.size : Int)) = false := decide_eq_false (by omega)
          have b1' : decide (64 < X.size) = false := decide_eq_false h64
          have HNL2 := Lib.hid (show longB (items.take (k + 1)) = false by rw [HM.out, HNL.out, b1']; rfl)
          clear HNL HM HLO
          go_wp2
          go_roundw
          case rel => exact ⟨k + 1, by omega, by go_num, HNL2, HF⟩
          case measure => simp [intOf]; omega
      · obtain rfl : k = n := by omega
        have dk : decide ((k : Int) < (k : Int)) = false := decide_eq_false (by omega)
        have dk' : decide (k < k) = false := decide_eq_false (by omega)
        have HV := Lib.hid (show R = 0 by
          have := HNL.out
          rw [List.take_of_length_le (by rw [HL.out]; exact Nat.le_refl _)] at this
          rw [HE.out, this]; rfl)
        go_wp2
        go_ret
        exact ⟨by rw [HV.out]; rfl, HF.out⟩
  · have HE := Lib.hid he
    obtain ⟨R, hR⟩ : ∃ R, chkR ⟨code, num, items⟩ = R := ⟨_, rfl⟩
    rw [hR] at HE ⊢
    have HW := Lib.hid (show Fr No w (w.alloc (.cells #[.int .i64 code, .int .i64 num, .slice A n c] 28 (0, 0))) from (Fr.refl _ _).alloc _)
    have HB0 := Lib.hid (Bk.new w 28 [.int .i64 code, .int .i64 num, .slice A n c])
    clear hl he hR
    go_enter Tryd.func36, Tryd.ntmps36
    go_wp2
    go_loopw [46] (fun i wr => ∃ k : Nat, k ≤ n ∧ i = .int .i64 (k : Int) ∧ Hid (longB (items.take k) = false) ∧ Hid (Fr No w wr)) (fun i _ => n - (intOf i).toNat)
    case atStart => exact ⟨0, Nat.zero_le _, rfl, rfl, HW⟩
    case round =>
      clear HW HB0
      obtain ⟨k, hk, rfl, HNL, HF⟩ := hrel
      have hw : IntKind.i64.wrap ((k : Int) + 1) = (k : Int) + 1 := IntWalk.i64_in _ (by omega)
      by_cases hlt : k < n
      · have hki : (k : Int) < (n : Int) := by omega
        have dk : decide ((k : Int) < (n : Int)) = true := decide_eq_true hki
        have dk' : decide (k < n) = true := decide_eq_true hlt
        have hkl : k < items.length := by rw [HL.out]; exact hlt
        obtain ⟨ad, hA, ca⟩ := (HT.out.fr HF.out (fun _ _ _ q => q)).at_ k hkl
        subst hA
        have HM := Lib.hid (long_more hkl)
        have HLO := Lib.hid (fun h => long_of hkl h)
        generalize items[k] = u at *
        unfold sv at ca
        obtain ⟨X, hX⟩ : ∃ X : ByteArray, (⟨u.toArray⟩ : ByteArray) = X := ⟨_, rfl⟩
        have hs := sv_size hX
        rw [hX] at ca
        rw [← hs] at HM HLO
        clear hX hs hkl
        by_cases h64 : 64 < X.size
        · have b1 : decide ((64 : Int) < (X.size : Int)) = true := decide_eq_true (by omega)
          have b1' : decide (64 < X.size) = true := decide_eq_true h64
          have HV := Lib.hid (show R = 52 by rw [HE.out, HLO.out h64]; rfl)
          go_wp2
          go_ret
          exact ⟨by rw [HV.out]; rfl, HF.out⟩
        · have b1 : decide ((64 : Int) < (X.size : Int)) = false := decide_eq_false (by omega)
          have b1' : decide (64 < X.size) = false := decide_eq_false h64
          have HNL2 := Lib.hid (show longB (items.take (k + 1)) = false by rw [HM.out, HNL.out, b1']; rfl)
          clear HNL HM HLO
          go_wp2
          go_roundw
          case rel => exact ⟨k + 1, by omega, by go_num, HNL2, HF⟩
          case measure => simp [intOf]; omega
      · obtain rfl : k = n := by omega
        have dk : decide ((k : Int) < (k : Int)) = false := decide_eq_false (by omega)
        have dk' : decide (k < k) = false := decide_eq_false (by omega)
        have HV := Lib.hid (show R = 0 by
          have := HNL.out
          rw [List.take_of_length_le (by rw [HL.out]; exact Nat.le_refl _)] at this
          rw [HE.out, this]; rfl)
        go_wp2
        go_ret
        exact ⟨by rw [HV.out]; rfl, HF.out⟩
set_option maxHeartbeats 4000000 in
set_option maxRecDepth 100000 in
theorem rChkR (x : RV) (A : Option Addr) (n c : Nat) (hl : x.items.length = n) (hn : n ≤ 8796093022000) (w : World) (hT : TR Any w A x.items) :
    Calls Tryd.prog 34 #[x.v A n c] w fun e w' => e = .returned (.int .i64 (chkR x)) ∧ Fr No w w' := by
  obtain ⟨code, num, items⟩ := x
  unfold RV.v
  dsimp only at *
  have HT := Lib.hid hT
  have HL := Lib.hid hl
  clear hT
  rcases chk_cases code num items n hl with ⟨a1, he⟩ | ⟨a1, a2, he⟩ | ⟨a1, a2, a3, a4, he⟩ | ⟨a1, a2, a3, a4, a5, a6, he⟩ | ⟨a1, a2, a3, a4, he⟩ | ⟨a1, a2, a3, a4, a5, he⟩ | ⟨a1, a2, a3, a4, a5, a6, a7, he⟩ | ⟨a1, a2, a3, a4, a5, a6, a7, a8, a9, a10, he⟩ | ⟨a1, a2, a3, a4, a5, a6, a7, he⟩
  · have HE := Lib.hid he
    clear hl he
    go_enter Tryd.func34, Tryd.ntmps34
    go_wp2
    go_ret
    exact ⟨by rw [HE.out]; rfl, (Fr.refl _ _).alloc _⟩
  · have HE := Lib.hid he
    clear hl he
    go_enter Tryd.func34, Tryd.ntmps34
    go_wp2
    go_ret
    exact ⟨by rw [HE.out]; rfl, (Fr.refl _ _).alloc _⟩
  · have HE := Lib.hid he
    clear hl he
    go_enter Tryd.func34, Tryd.ntmps34
    go_wp2
    go_ret
    exact ⟨by rw [HE.out]; rfl, (Fr.refl _ _).alloc _⟩
  · have HE := Lib.hid he
    clear hl he
    go_enter Tryd.func34, Tryd.ntmps34
    go_wp2
    go_ret
    exact ⟨by rw [HE.out]; rfl, (Fr.refl _ _).alloc _⟩
  · have HE := Lib.hid he
    clear hl he
    go_enter Tryd.func34, Tryd.ntmps34
    go_wp2
    go_ret
    exact ⟨by rw [HE.out]; rfl, (Fr.refl _ _).alloc _⟩
  · have HE := Lib.hid he
    clear hl he
    go_enter Tryd.func34, Tryd.ntmps34
    go_wp2
    go_ret
    exact ⟨by rw [HE.out]; rfl, (Fr.refl _ _).alloc _⟩
  · have HE := Lib.hid he
    clear hl he
    go_enter Tryd.func34, Tryd.ntmps34
    go_wp2
    go_ret
    exact ⟨by rw [HE.out]; rfl, (Fr.refl _ _).alloc _⟩
  · have HE := Lib.hid he
    obtain ⟨R, hR⟩ : ∃ R, chkR ⟨code, num, items⟩ = R := ⟨_, rfl⟩
    rw [hR] at HE ⊢
    have HW := Lib.hid (show Fr No w (w.alloc (.cells #[.int .i64 code, .int .i64 num, .slice A n c] 28 (0, 0))) from (Fr.refl _ _).alloc _)
    have HB0 := Lib.hid (Bk.new w 28 [.int .i64 code, .int .i64 num, .slice A n c])
    clear hl he hR
    go_enter Tryd.func34, Tryd.ntmps34
    go_wp2
    go_loopw [3] (fun i wr => ∃ k : Nat, k ≤ n ∧ i = .int .i64 (k : Int) ∧ Hid (longB (items.take k) = false) ∧ Hid (Bk wr w.heap.size 28 [.int .i64 code, .int .i64 num, .slice A n c]) ∧ Hid (Fr No w wr)) (fun i _ => n - (intOf i).toNat)
    case atStart => exact ⟨0, Nat.zero_le _, rfl, rfl, HB0, HW⟩
    case round =>
      clear HW HB0
      obtain ⟨k, hk, rfl, HNL, HB, HF⟩ := hrel
      have hw : IntKind.i64.wrap ((k : Int) + 1) = (k : Int) + 1 := IntWalk.i64_in _ (by omega)
      obtain ⟨y0, y1, y2, yf⟩ := HB.out.three
      by_cases hlt : k < n
      · have hki : (k : Int) < (n : Int) := by omega
        have dk : decide ((k : Int) < (n : Int)) = true := decide_eq_true hki
        have dk' : decide (k < n) = true := decide_eq_true hlt
        have hkl : k < items.length := by rw [HL.out]; exact hlt
        obtain ⟨ad, hA, ca⟩ := (HT.out.fr HF.out (fun _ _ _ q => q)).at_ k hkl
        subst hA
        have HM := Lib.hid (long_more hkl)
        have HLO := Lib.hid (fun h => long_of hkl h)
        generalize items[k] = u at *
        unfold sv at ca
        obtain ⟨X, hX⟩ : ∃ X : ByteArray, (⟨u.toArray⟩ : ByteArray) = X := ⟨_, rfl⟩
        have hs := sv_size hX
        rw [hX] at ca
        rw [← hs] at HM HLO
        clear hX hs hkl
        by_cases h64 : 64 < X.size
        · have b1 : decide ((64 : Int) < (X.size : Int)) = true := decide_eq_true (by omega)
          have b1' : decide (64 < X.size) = true := decide_eq_true h64
          have HV := Lib.hid (show R = 52 by rw [HE.out, HLO.out h64]; rfl)
          go_wp2
          go_ret
          exact ⟨by rw [HV.out]; rfl, HF.out⟩
        · have b1 : decide ((64 : Int) < (X.size : Int)) = false := decide_eq_false (by omega)
          have b1' : decide (64 < X.size) = false := decide_eq_false h64
          have HNL2 := Lib.hid (show longB (items.take (k + 1)) = false by rw [HM.out, HNL.out, b1']; rfl)
          clear HNL HM HLO
          go_wp2
          go_roundw
          case rel => exact ⟨k + 1, by omega, by go_num, HNL2, HB, HF⟩
          case measure => simp [intOf]; omega
      · obtain rfl : k = n := by omega
        have dk : decide ((k : Int) < (k : Int)) = false := decide_eq_false (by omega)
        have dk' : decide (k < k) = false := decide_eq_false (by omega)
        have HV := Lib.hid (show R = 0 by
          have := HNL.out
          rw [List.take_of_length_le (by rw [HL.out]; exact Nat.le_refl _)] at this
          rw [HE.out, this]; rfl)
        go_wp2
        go_ret
        exact ⟨by rw [HV.out]; rfl, HF.out⟩
  · have HE := Lib.hid he
    obtain ⟨R, hR⟩ : ∃ R, chkR ⟨code, num, items⟩ = R := ⟨_, rfl⟩
    rw [hR] at HE ⊢
    have HW := Lib.hid (show Fr No w (w.alloc (.cells #[.int .i64 code, .int .i64 num, .slice A n c] 28 (0, 0))) from (Fr.refl _ _).alloc _)
    have HB0 := Lib.hid (Bk.new w 28 [.int .i64 code, .int .i64 num, .slice A n c])
    clear hl he hR
    go_enter Tryd.func34, Tryd.ntmps34
    go_wp2
    go_loopw [3] (fun i wr => ∃ k : Nat, k ≤ n ∧ i = .int .i64 (k : Int) ∧ Hid (longB (items.take k) = false) ∧ Hid (Bk wr w.heap.size 28 [.int .i64 code, .int .i64 num, .slice A n c]) ∧ Hid (Fr No w wr)) (fun i _ => n - (intOf i).toNat)
    case atStart => exact ⟨0, Nat.zero_le _, rfl, rfl, HB0, HW⟩
    case round =>
      clear HW HB0
      obtain ⟨k, hk, rfl, HNL, HB, HF⟩ := hrel
      have hw : IntKind.i64.wrap ((k : Int) + 1) = (k : Int) + 1 := IntWalk.i64_in _ (by omega)
      obtain ⟨y0, y1, y2, yf⟩ := HB.out.three
      by_cases hlt : k < n
      · have hki : (k : Int) < (n : Int) := by omega
        have dk : decide ((k : Int) < (n : Int)) = true := decide_eq_true hki
        have dk' : decide (k < n) = true := decide_eq_true hlt
        have hkl : k < items.length := by rw [HL.out]; exact hlt
        obtain ⟨ad, hA, ca⟩ := (HT.out.fr HF.out (fun _ _ _ q => q)).at_ k hkl
        subst hA
        have HM := Lib.hid (long_more hkl)
        have HLO := Lib.hid (fun h => long_of hkl h)
        generalize items[k] = u at *
        unfold sv at ca
        obtain ⟨X, hX⟩ : ∃ X : ByteArray, (⟨u.toArray⟩ : ByteArray) = X := ⟨_, rfl⟩
        have hs := sv_size hX
        rw [hX] at ca
        rw [← hs] at HM HLO
        clear hX hs hkl
        by_cases h64 : 64 < X.size
        · have b1 : decide ((64 : Int) < (X.size : Int)) = true := decide_eq_true (by omega)
          have b1' : decide (64 < X.size) = true := decide_eq_true h64
          have HV := Lib.hid (show R = 52 by rw [HE.out, HLO.out h64]; rfl)
          go_wp2
          go_ret
          exact ⟨by rw [HV.out]; rfl, HF.out⟩
        · have b1 : decide ((64 : Int) < (X.size : Int)) = false := decide_eq_false (by omega)
          have b1' : decide (64 < X.size) = false := decide_eq_false h64
          have HNL2 := Lib.hid (show longB (items.take (k + 1)) = false by rw [HM.out, HNL.out, b1']; rfl)
          clear HNL HM HLO
          go_wp2
          go_roundw
          case rel => exact ⟨k + 1, by omega, by go_num, HNL2, HB, HF⟩
          case measure => simp [intOf]; omega
      · obtain rfl : k = n := by omega
        have dk : decide ((k : Int) < (k : Int)) = false := decide_eq_false (by omega)
        have dk' : decide (k < k) = false := decide_eq_false (by omega)
        have HV := Lib.hid (show R = 0 by
          have := HNL.out
          rw [List.take_of_length_le (by rw [HL.out]; exact Nat.le_refl _)] at this
          rw [HE.out, this]; rfl)
        go_wp2
        go_ret
        exact ⟨by rw [HV.out]; rfl, HF.out⟩
theorem rCodes (w : World) : Calls Tryd.prog 35 #[] w fun e w' => e = .returned (.slice (some ⟨w.heap.size, 0, none⟩) 5 5) ∧ Bk w' w.heap.size 9 (codesL.map sv) ∧ Fr No w w' := by
  go_enter Tryd.func35, Tryd.ntmps35
  go_wp2
  go_ret
  exact ⟨rfl, Bk.new w 9 (codesL.map sv), (Fr.refl _ _).alloc _⟩
theorem Bk.texts {w : World} {g : Nat} {l : List (List UInt8)} (h : Bk w g 9 (l.map sv)) (D : Nat → Prop) (hd : D g) : TR D w (some ⟨g, 0, none⟩) l := fun j u hj => ⟨_, rfl, hd, by
  rw [add0, h.cell j, List.getElem?_map, hj]; rfl⟩
theorem idx_drop {l : List (List UInt8)} {k : Nat} (hk : k < l.length) (s : List UInt8) : idxL (l.drop k) k s = if l[k] = s then (k : Int) else idxL (l.drop (k + 1)) (k + 1) s := by
  rw [List.drop_eq_getElem_cons hk]; rfl
theorem toList_ne {p q : ByteArray} (h : p ≠ q) : (p.toList == q.toList) = false := by
  rw [beq_eq_false_iff_ne]
  intro e
  rw [ByteArray.toList_eq, ByteArray.toList_eq] at e
  cases p; cases q
  simp_all
set_option maxHeartbeats 4000000 in
set_option maxRecDepth 100000 in
theorem rIndex (A : Option Addr) (n c j : Nat) (l : List (List UInt8)) (s : List UInt8) (hl : l.length = n) (hn : n ≤ 8796093022000) (hj : j ≤ n) (w : World) (hT : TR Any w A l) :
    Calls Tryd.prog 37 #[.slice A n c, .int .i64 (j : Int), .string ⟨s.toArray⟩] w fun e w' => e = .returned (.int .i64 (idxL (l.drop j) j s)) ∧ Fr No w w' := by
  obtain ⟨R, hR⟩ : ∃ R, idxL (l.drop j) j s = R := ⟨_, rfl⟩
  have HR := Lib.hid hR
  rw [hR]
  obtain ⟨q, hq⟩ : ∃ q : ByteArray, (⟨s.toArray⟩ : ByteArray) = q := ⟨_, rfl⟩
  have HQ := Lib.hid hq
  rw [hq]
  have HT := Lib.hid hT
  have HL := Lib.hid hl
  clear hT hl hR hq
  go_enter Tryd.func37, Tryd.ntmps37
  go_wp2
  go_loopw [7] (fun i wr => ∃ k : Nat, k ≤ n ∧ i = .int .i64 (k : Int) ∧ Hid (idxL (l.drop k) k s = R) ∧ Hid (Fr No w wr)) (fun i _ => n - (intOf i).toNat)
  case atStart => exact ⟨j, hj, rfl, HR, Fr.refl _ _⟩
  case round =>
    clear HR
    obtain ⟨k, hk, rfl, HR, HF⟩ := hrel
    have hw : IntKind.i64.wrap ((k : Int) + 1) = (k : Int) + 1 := IntWalk.i64_in _ (by omega)
    by_cases hlt : k < n
    · have hki : (k : Int) < (n : Int) := by omega
      have dk : decide ((k : Int) < (n : Int)) = true := decide_eq_true hki
      have dk' : decide (k < n) = true := decide_eq_true hlt
      have hkl : k < l.length := by rw [HL.out]; exact hlt
      obtain ⟨ad, hA, ca⟩ := (HT.out.fr HF.out (fun _ _ _ q => q)).at_ k hkl
      subst hA
      have HM := Lib.hid (idx_drop hkl s)
      generalize l[k] = u at *
      unfold sv at ca
      obtain ⟨p, hp⟩ : ∃ p : ByteArray, (⟨u.toArray⟩ : ByteArray) = p := ⟨_, rfl⟩
      have HPQ := Lib.hid (show p = q ↔ u = s by rw [← hp, ← HQ.out]; exact mk_inj)
      rw [hp] at ca
      clear hp hkl
      by_cases he : u = s
      · have e1 : p = q := HPQ.out.2 he
        subst e1
        have HV := Lib.hid (show R = (k : Int) by rw [← HR.out, HM.out, if_pos he])
        clear HPQ he
        go_wp2
        go_ret
        exact ⟨by rw [HV.out]; rfl, HF.out⟩
      · have e2 := toList_ne (fun h => he (HPQ.out.1 h))
        have HR2 := Lib.hid (show idxL (l.drop (k + 1)) (k + 1) s = R by rw [← HR.out, HM.out, if_neg he])
        clear HPQ he HR HM
        go_wp2
        go_roundw
        case rel => exact ⟨k + 1, by omega, by go_num, HR2, HF⟩
        case measure => simp [intOf]; omega
    · obtain rfl : k = n := by omega
      have dk : decide ((k : Int) < (k : Int)) = false := decide_eq_false (by omega)
      have dk' : decide (k < k) = false := decide_eq_false (by omega)
      have HV := Lib.hid (show R = -1 by
        rw [← HR.out, List.drop_of_length_le (by rw [HL.out]; exact Nat.le_refl _)]; rfl)
      go_wp2
      go_ret
      exact ⟨by rw [HV.out]; rfl, HF.out⟩
/-- words behind others -/
theorem wPut (A B : Option Addr) (n c m d q : Nat) (rb : Option Nat) (l k : List (List UInt8)) (hl : l.length = n) (hk : k.length = m) (hq : n + m = q) (hb : q ≤ 8796093022208) (w0 w : World) (hL : TBuf w0 w rb (.slice A n c) l) (hK : TR Any w B k) :
    Calls Tryd.prog 38 #[.slice A n c, .slice B m d] w fun e w' => ∃ A' c' rb', e = .returned (.slice A' q c') ∧ TBuf w0 w' rb' (.slice A' q c') (l ++ k) ∧ Fr (fun j => rb = some j) w w' := by
  subst hq
  have HL := Lib.hid hL
  have HK := Lib.hid hK
  have HLL := Lib.hid hl
  have HKL := Lib.hid hk
  clear hL hK hl hk
  go_enter Tryd.func38, Tryd.ntmps38
  go_wp2_with (at_builtin; refine wl_append _ rfl (.tmp 5) (.tmp 6) 26 rfl 9 _ 1 16 Tryd.underlying26 infoStr rfl (by decide) rb _ n (l.map sv) rfl (HL.out.row HLL.out (Fr.refl No w)) B m d (k.map sv) rfl (by rw [List.length_map, HKL.out, Nat.mul_one]) (fun h => HK.out.cells (by rw [HKL.out]; exact h)) (sv_one _) (by unfold maxLen; omega) (by omega) ?_; intro A6 c6 w6 rb6 hrow6 hF6 hnb6)
  have HB6 := Lib.hid (HL.out.grow (k := k) hrow6 HLL.out HKL.out hF6 hnb6)
  have HF6 := Lib.hid hF6
  clear hrow6 hF6 hnb6
  go_ret
  exact ⟨A6, c6, rb6, rfl, HB6.out, HF6.out⟩
end Go.Proofs.YtdhlbdllidfenaaDoor.Wd
