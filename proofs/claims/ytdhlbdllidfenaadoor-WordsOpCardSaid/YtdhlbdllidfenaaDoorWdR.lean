/- Words: lists that are lent, and the bound on what is joined, walked. Conditions: none. -/
import Derived.Test.YtdhlbdllidfenaaDoorWdQ
namespace Go.Proofs.YtdhlbdllidfenaaDoor.Wd
open Go.RowKit Go.Proofs.YtdhlbdllidfenaaDoor.Mem
set_option linter.unusedVariables false
set_option linter.unusedSimpArgs false
/-- a list of words that grows, in memory of its own -/
def TBuf (w0 w : World) (rb : Option Nat) (v : Value) (l : List (List UInt8)) : Prop := Row w 9 1 rb v l.length (l.map sv) ∧ Fr No w0 w ∧ ∀ k, rb = some k → w0.heap.size ≤ k
theorem TBuf.quiet {w0 w w1 : World} {rb : Option Nat} {v : Value} {l : List (List UInt8)} (h : TBuf w0 w rb v l) (hf : Fr No w w1) : TBuf w0 w1 rb v l := ⟨h.1.fr hf (fun _ _ q => q), h.2.1.then_ hf, h.2.2⟩
theorem TBuf.grow {w0 w w1 : World} {rb rb1 : Option Nat} {v v1 : Value} {l k : List (List UInt8)} {n m : Nat} (h : TBuf w0 w rb v l) (hr : Row w1 9 1 rb1 v1 (n + m) (l.map sv ++ k.map sv)) (hn : l.length = n) (hm : k.length = m) (hf : Fr (fun q => rb = some q) w w1) (hnb : rb1 = rb ∨ ∃ q, rb1 = some q ∧ w.heap.size ≤ q) : TBuf w0 w1 rb1 v1 (l ++ k) := by
  refine ⟨?_, h.2.1.trans hf (fun q hq e => by have := h.2.2 q e; omega), fun q hq => ?_⟩
  · rw [List.length_append, hn, hm, List.map_append]; exact hr
  · rcases hnb with e | ⟨q', e, hq'⟩
    · exact h.2.2 q (e ▸ hq)
    · rw [e] at hq; cases hq; have := h.2.1.size; omega
theorem TBuf.row {w0 w w1 : World} {rb : Option Nat} {v : Value} {l : List (List UInt8)} {n : Nat} (h : TBuf w0 w rb v l) (hn : l.length = n) (hf : Fr No w w1) : Row w1 9 1 rb v n (l.map sv) := by
  have := (h.quiet hf).1
  rw [hn] at this
  exact this
theorem newTexts1 (w : World) (l : List (List UInt8)) : ∃ ad, some (⟨w.heap.size, 0, none⟩ : Addr) = some ad ∧ ∀ (j : Nat) (u : Value), (l.map sv)[j]? = some u → (w.alloc (.cells (l.map sv).toArray 9 (0, 0))).cell? (ad.add j) = some u :=
  ⟨_, rfl, fun j u hj => by rw [add0]; exact ((Bk.new w 9 (l.map sv)).cell j).trans hj⟩
theorem sv_one (l : List (List UInt8)) : ∀ u ∈ l.map sv, u.oneCell' = true := by
  intro u hu
  obtain ⟨x, _, rfl⟩ := List.mem_map.1 hu
  rfl
theorem TR.cells {D : Nat → Prop} {w : World} {A : Option Addr} {l : List (List UInt8)} (h : TR D w A l) (hl : 0 < l.length) : ∃ ad, A = some ad ∧ ∀ (j : Nat) (u : Value), (l.map sv)[j]? = some u → w.cell? (ad.add j) = some u := by
  obtain ⟨ad, rfl, _⟩ := h.at_ 0 hl
  refine ⟨ad, rfl, fun j u hj => ?_⟩
  rw [List.getElem?_map] at hj
  rcases hq : l[j]? with _ | x
  · rw [hq] at hj; cases hj
  · rw [hq] at hj
    simp only [Option.map_some, Option.some.injEq] at hj
    subst hj
    obtain ⟨ad', h1, _, h3⟩ := h j x hq
    injection h1 with h1
    rw [h1]; exact h3
set_option maxHeartbeats 4000000 in
set_option maxRecDepth 100000 in
theorem wRound (A : Option Addr) (n c : Nat) (l : List (List UInt8)) (hl : l.length = n) (hn : n ≤ 8796093022000) (w : World) (hT : TR Any w A l) :
    Calls Tryd.prog 14 #[.slice A n c] w fun e w' => ∃ A' c' rb, e = .returned (.slice A' n c') ∧ TBuf w w' rb (.slice A' n c') l.reverse := by
  have HT := Lib.hid hT
  have HL := Lib.hid hl
  clear hT hl
  go_enter Tryd.func14, Tryd.ntmps14
  go_wp2
  go_loopw [3, 7] (fun o i wr => ∃ (k : Nat) (B : Option Addr) (d : Nat) (rb : Option Nat), o = .slice B k d ∧ i = .int .i64 (k : Int) ∧ k ≤ n ∧ Hid (TBuf w wr rb (.slice B k d) (l.reverse.take k))) (fun _ i _ => n - (intOf i).toNat)
  case atStart => exact ⟨0, none, 0, none, rfl, rfl, Nat.zero_le _, Row.nil _ _ _, Fr.refl _ _, fun k hk => by cases hk⟩
  case round =>
    obtain ⟨k, B, d, rb, rfl, rfl, hk, HB⟩ := hrel
    have hwk : IntKind.i64.wrap ((k : Int) + 1) = (k : Int) + 1 := IntWalk.i64_in _ (by omega)
    by_cases hlt : k < n
    · obtain ⟨m, hm⟩ : ∃ m, n = m + 1 := ⟨n - 1, by omega⟩
      obtain ⟨j, hj⟩ : ∃ j, j + k = m := ⟨m - k, by omega⟩
      have hw1 : IntKind.i64.wrap ((n : Int) - 1) = (m : Int) := by rw [IntWalk.i64_in _ (by omega)]; omega
      have hw2 : IntKind.i64.wrap ((m : Int) - (k : Int)) = (j : Int) := by rw [IntWalk.i64_in _ (by omega)]; omega
      have hjn : (j : Int) < (n : Int) := by omega
      have hki : (k : Int) < (n : Int) := by omega
      have dk : decide ((k : Int) < (n : Int)) = true := decide_eq_true hki
      have dk' : decide (k < n) = true := decide_eq_true hlt
      have hjl : j < l.length := by rw [HL.out]; omega
      obtain ⟨ad, hA, ca⟩ := (HT.out.fr HB.out.2.1 (fun _ _ _ q => q)).at_ j hjl
      subst hA
      have hkr : k < l.reverse.length := by rw [List.length_reverse, HL.out]; exact hlt
      have hrv : l.reverse[k] = l[j] := by
        rw [List.getElem_reverse]
        congr 1
        rw [HL.out]; omega
      have HN := Lib.hid (show l.reverse.take (k + 1) = l.reverse.take k ++ [l[j]] by rw [List.take_succ_eq_append_getElem hkr, hrv])
      have HTL := Lib.hid (show (l.reverse.take k).length = k by rw [List.length_take]; omega)
      generalize l[j] = x at *
      unfold sv at ca
      clear hkr hrv hjl hm hj
      go_wp2_with (at_builtin; refine wl_append _ rfl (.tmp 10) (.tmp 19) 26 rfl 9 _ 1 16 Tryd.underlying26 infoStr rfl (by decide) rb _ k ((l.reverse.take k).map sv) rfl (HB.out.row HTL.out ((Fr.refl No wr).alloc _)) (some ⟨wr.heap.size, 0, none⟩) 1 1 ([x].map sv) rfl rfl (fun _ => newTexts1 wr [x]) (sv_one _) (by unfold maxLen; omega) (by omega) ?_; intro A6 c6 w6 rb6 hrow6 hF6 hnb6)
      have HB6 := Lib.hid ((HB.out.quiet ((Fr.refl No wr).alloc _)).grow (k := [x]) hrow6 HTL.out rfl hF6 hnb6)
      clear hrow6 hF6 hnb6 HB HTL
      go_wp2
      go_roundw
      case rel => exact ⟨k + 1, A6, c6, rb6, rfl, by go_num, by omega, by show _; rw [HN.out]; exact HB6.out⟩
      case measure => simp [intOf]; omega
    · obtain rfl : k = n := by omega
      have dk : decide ((k : Int) < (k : Int)) = false := decide_eq_false (by omega)
      have dk' : decide (k < k) = false := decide_eq_false (by omega)
      have HB2 := Lib.hid (show TBuf w wr rb (.slice B k d) l.reverse by
        have := HB.out
        rwa [List.take_of_length_le (by rw [List.length_reverse, HL.out]; exact Nat.le_refl _)] at this)
      clear HB
      go_wp2
      go_ret
      exact ⟨B, d, rb, rfl, HB2.out⟩
def mkS : List UInt8 := [116, 104, 101, 32, 111, 119, 110, 101, 114, 39, 115]
/-- a list that was lent: what is behind it is marked -/
def Lent (w : World) (g c : Nat) (l : List (List UInt8)) : Prop := ∃ sp, Bk w g 9 ((l ++ [mkS, mkS, mkS]).map sv ++ sp) ∧ l.length + 3 ≤ c ∧ c ≤ maxLen ∧ sp.length = c - (l.length + 3)
theorem Lent.fr {S : Nat → Prop} {w w1 : World} {g c : Nat} {l : List (List UInt8)} (h : Lent w g c l) (hf : Fr S w w1) (hn : ¬ S g) : Lent w1 g c l := by
  obtain ⟨sp, h1, h2⟩ := h
  exact ⟨sp, h1.fr hf hn, h2⟩
theorem Lent.tr {w : World} {g c : Nat} {l : List (List UInt8)} {D : Nat → Prop} (h : Lent w g c l) (hd : D g) : TR D w (some ⟨g, 0, none⟩) l := fun j u hj => by
  obtain ⟨sp, h1, _⟩ := h
  have hjl : j < l.length := (List.getElem?_eq_some_iff.1 hj).1
  refine ⟨_, rfl, hd, ?_⟩
  rw [add0, h1.cell j, List.map_append, List.append_assoc, List.getElem?_append_left (by rw [List.length_map]; exact hjl), List.getElem?_map, hj]
  rfl
theorem Lent.mark {w : World} {g c n : Nat} {l : List (List UInt8)} (h : Lent w g c l) (hn : l.length = n) (j : Nat) (hj : j < 3) : w.cell? ⟨g, n + j, none⟩ = some (.string ⟨#[116, 104, 101, 32, 111, 119, 110, 101, 114, 39, 115]⟩) := by
  obtain ⟨sp, h1, _⟩ := h
  have hl : (l.map sv).length = n := by rw [List.length_map, hn]
  rw [h1.cell (n + j), List.map_append, List.append_assoc, List.getElem?_append_right (by omega), hl, Nat.add_sub_cancel_left]
  match j, hj with
  | 0, _ => rfl
  | 1, _ => rfl
  | 2, _ => rfl
set_option maxHeartbeats 4000000 in
set_option maxRecDepth 100000 in
theorem wLent (A : Option Addr) (n c : Nat) (l : List (List UInt8)) (hl : l.length = n) (hn : n ≤ 8796093022000) (w : World) (hT : TR Any w A l) :
    Calls Tryd.prog 12 #[.slice A n c] w fun e w' => ∃ g d, e = .returned (.slice (some ⟨g, 0, none⟩) n d) ∧ Lent w' g d l ∧ Fr No w w' ∧ w.heap.size ≤ g := by
  have HT := Lib.hid hT
  have HL := Lib.hid hl
  clear hT hl
  have HB0 := Lib.hid (show TBuf w w none (.slice none 0 0) [] from ⟨Row.nil _ _ _, Fr.refl _ _, fun k hk => by cases hk⟩)
  go_enter Tryd.func12, Tryd.ntmps12
  go_wp2_with (at_builtin; refine wl_append _ rfl (.const (.slice none 0 0)) (.tmp 4) 26 rfl 9 _ 1 16 Tryd.underlying26 infoStr rfl (by decide) none _ 0 (([] : List (List UInt8)).map sv) rfl (HB0.out.row rfl (Fr.refl No w)) A n c (l.map sv) rfl (by rw [List.length_map, HL.out, Nat.mul_one]) (fun h => HT.out.cells (by rw [HL.out]; exact h)) (sv_one _) (by unfold maxLen; omega) (by omega) ?_; intro A1 c1 w1 rb1 hrow1 hF1 hnb1)
  have HB1 := Lib.hid (HB0.out.grow (k := l) hrow1 rfl HL.out hF1 hnb1)
  clear hrow1 hF1 hnb1 HB0
  rw [Nat.zero_add] at HB1
  rw [List.nil_append] at HB1
  go_wp2
  go_loopw [3, 6] (fun o i wr => ∃ (k m : Nat) (B : Option Addr) (d : Nat) (rb : Option Nat), o = .slice B m d ∧ i = .int .i64 (k : Int) ∧ k ≤ 3 ∧ m ≤ n + 3 ∧ Hid (m = n + k) ∧ Hid (TBuf w wr rb (.slice B m d) (l ++ List.replicate k mkS))) (fun _ i _ => 3 - (intOf i).toNat)
  case atStart => exact ⟨0, n, A1, c1, rb1, rfl, rfl, by omega, by omega, rfl, by show _; rw [List.replicate_zero, List.append_nil]; exact HB1.out⟩
  case round =>
    clear HB1
    obtain ⟨k, m, B, d, rb, rfl, rfl, hk, hm3, HMK, HB⟩ := hrel
    have hwk : IntKind.i64.wrap ((k : Int) + 1) = (k : Int) + 1 := IntWalk.i64_in _ (by omega)
    have HTL := Lib.hid (show (l ++ List.replicate k mkS).length = m by rw [List.length_append, List.length_replicate, HL.out, HMK.out])
    by_cases hlt : k < 3
    · have dk : decide ((k : Int) < 3) = true := decide_eq_true (by omega)
      have dk' : decide (k < 3) = true := decide_eq_true hlt
      go_wp2_with (at_builtin; refine wl_append _ rfl (.tmp 8) (.tmp 9) 26 rfl 9 _ 1 16 Tryd.underlying26 infoStr rfl (by decide) rb _ m ((l ++ List.replicate k mkS).map sv) rfl (HB.out.row HTL.out ((Fr.refl No wr).alloc _)) (some ⟨wr.heap.size, 0, none⟩) 1 1 ([mkS].map sv) rfl rfl (fun _ => newTexts1 wr [mkS]) (sv_one _) (by unfold maxLen; omega) (by omega) ?_; intro A6 c6 w6 rb6 hrow6 hF6 hnb6)
      have HB6 := Lib.hid ((HB.out.quiet ((Fr.refl No wr).alloc _)).grow (k := [mkS]) hrow6 HTL.out rfl hF6 hnb6)
      clear hrow6 hF6 hnb6 HB HTL
      go_wp2
      go_roundw
      case rel => exact ⟨k + 1, m + 1, A6, c6, rb6, rfl, by go_num, by omega, by have := HMK.out; omega, by show _ = _; have := HMK.out; omega, by show _; rw [List.replicate_succ', ← List.append_assoc]; exact HB6.out⟩
      case measure => simp [intOf]; omega
    · obtain rfl : k = 3 := by omega
      have dk : decide (((3 : Nat) : Int) < 3) = false := decide_eq_false (by omega)
      obtain ⟨g, d', hg, hv, hmd, hcell, _⟩ := (HB.out.row HTL.out (Fr.refl No wr)).at_ (by have := HMK.out; omega)
      injection hv with e1 e2 e3
      subst e1 e3 hg
      have hm := HMK.out
      have hnd : n ≤ d := by omega
      have hndi : (n : Int) ≤ (d : Int) := by omega
      have HLN := Lib.hid (show Lent wr g d l by
        obtain ⟨sp, h1, h2, h3, h4⟩ := (HB.out.row HTL.out (Fr.refl No wr)).open_
        refine ⟨sp, h1, ?_, h4, ?_⟩
        · rw [HL.out]; omega
        · rw [HL.out]; omega)
      have HF := Lib.hid HB.out.2.1
      have HG := Lib.hid (HB.out.2.2 g rfl)
      clear HB hcell HTL hm
      go_wp2
      go_ret
      exact ⟨g, d, rfl, HLN.out, HF.out, HG.out⟩
set_option maxHeartbeats 4000000 in
set_option maxRecDepth 100000 in
theorem wStill (g d : Nat) (xs : List (List UInt8)) (n : Nat) (hxs : xs.length = n) (A : Option Addr) (c : Nat) (l : List (List UInt8)) (hl : l.length = n) (hn : n ≤ 8796093022000) (w : World) (hL : Lent w g d xs) (hT : TR Any w A l) :
    Calls Tryd.prog 22 #[.slice (some ⟨g, 0, none⟩) n d, .slice A n c] w fun e w' => e = .returned (.bool (decide (xs = l))) ∧ Fr No w w' := by
  have HX := Lib.hid (fun W (hW : Fr No w W) => wTexts (some ⟨g, 0, none⟩) A n d n c xs l hxs hl (by omega) W (hL.tr (D := Any) trivial |>.fr hW (fun _ _ _ q => q)) (hT.fr hW (fun _ _ _ q => q)))
  have hd : n + 3 ≤ d := by obtain ⟨_, _, h, _⟩ := hL; rw [hxs] at h; exact h
  have HM := Lib.hid (fun j hj W (hW : Fr No w W) => (hL.fr hW id).mark hxs j hj)
  clear hL hT hxs hl
  obtain ⟨n3, hn3⟩ : ∃ n3, n + 3 = n3 := ⟨_, rfl⟩
  have hw3 : IntKind.i64.wrap ((n : Int) + 3) = (n3 : Int) := by rw [IntWalk.i64_in _ (by omega)]; omega
  have h1 : n ≤ n3 := by omega
  have h2 : n3 ≤ d := by omega
  have h1i : (n : Int) ≤ (n3 : Int) := by omega
  have h2i : (n3 : Int) ≤ (d : Int) := by omega
  have h3 : n3 - n = 3 := by omega
  clear hn3
  go_enter Tryd.func22, Tryd.ntmps22
  go_wp2
  go_loopw [15] (fun i wr => ∃ k : Nat, k ≤ 3 ∧ i = .int .i64 (k : Int) ∧ Hid (Fr No w wr)) (fun i _ => 3 - (intOf i).toNat)
  case atStart => exact ⟨0, Nat.zero_le _, rfl, Fr.refl _ _⟩
  case round =>
    obtain ⟨k, hk, rfl, HF⟩ := hrel
    have hwk : IntKind.i64.wrap ((k : Int) + 1) = (k : Int) + 1 := IntWalk.i64_in _ (by omega)
    by_cases hlt : k < 3
    · have dk : decide ((k : Int) < 3) = true := decide_eq_true (by omega)
      have dk' : decide (k < 3) = true := decide_eq_true hlt
      have hki : (k : Int) < 3 := by omega
      have ca := HM.out k hlt wr HF.out
      have ca' : wr.cell? ((⟨g, n, none⟩ : Addr).add k) = some (.string ⟨#[116, 104, 101, 32, 111, 119, 110, 101, 114, 39, 115]⟩) := by
        rw [← ca]; unfold Addr.add; split <;> simp_all
      go_wp2
      go_roundw
      case rel => exact ⟨k + 1, by omega, by go_num, HF⟩
      case measure => simp [intOf]; omega
    · obtain rfl : k = 3 := by omega
      have dk : decide (((3 : Nat) : Int) < 3) = false := decide_eq_false (by omega)
      have HC := Lib.hid (HX.out wr HF.out)
      go_wp2_with fail
      refine HC.out.mono ?_
      rintro e w3 ⟨rfl, hF3⟩
      have HF3 := Lib.hid (HF.out.then_ hF3)
      clear hF3
      go_wp2
      go_ret
      exact ⟨rfl, HF3.out⟩
def beyondL (l : List (List UInt8)) : Bool := decide (2147483647 < l.length + Lib.lens l)
end Go.Proofs.YtdhlbdllidfenaaDoor.Wd
