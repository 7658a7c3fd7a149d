/- The laws SealMakes and SealOpens: 'right', walked. Conditions: none. -/
import Derived.Test.YtfpjdgkooikeoaaDoorHelJ
import Derived.Test.YtfpjdgkooikeoaaDoorSealQ
namespace Go.Proofs.YtfpjdgkooikeoaaDoor.Sl
open Go.RowKit Go.Proofs.YtfpjdgkooikeoaaDoor.Mem
set_option linter.unusedVariables false
set_option linter.unusedSimpArgs false
theorem ansP_len (op : Bool) (b : List UInt8) (hb : b.length ≤ 140737488351232) : (ansP op b).length ≤ 140737488351232 := by
  unfold ansP
  cases op
  · show (sP b).length ≤ _
    unfold sP
    split
    · simp
    · rw [sealL_len]; omega
  · show (openP b).length ≤ _
    unfold openP midL
    split
    · rw [List.length_take, List.length_drop]; omega
    · simp
def flp (l : List UInt8) : List UInt8 := l.map (fun x => x ^^^ 0xFF)
theorem flp_len (l : List UInt8) : (flp l).length = l.length := List.length_map ..
def mix (f g : List UInt8) (k : Nat) : List UInt8 := g.take k ++ f.drop k
theorem mix_0 (f g : List UInt8) : mix f g 0 = f := rfl
theorem mix_n (f g : List UInt8) (n : Nat) (hf : f.length = n) (hg : g.length = n) : mix f g n = g := by
  unfold mix
  rw [List.take_of_length_le (by omega), List.drop_of_length_le (by omega), List.append_nil]
theorem mix_len (f g : List UInt8) (n k : Nat) (hf : f.length = n) (hg : g.length = n) (hk : k ≤ n) : (mix f g k).length = n := by
  unfold mix
  rw [List.length_append, List.length_take, List.length_drop]; omega
theorem mix_at (f g t : List UInt8) (n k : Nat) (hf : f.length = n) (hg : g.length = n) (hk : k < n) : (mix f g k ++ t)[k]? = some (f[k]'(by omega)) := by
  rw [List.getElem?_append_left (by rw [mix_len f g n k hf hg (by omega)]; exact hk)]
  unfold mix
  rw [List.getElem?_append_right (by rw [List.length_take]; omega), List.length_take, List.getElem?_drop, show k + (k - min k g.length) = k by omega, List.getElem?_eq_getElem (by omega)]
theorem mix_set (f g t : List UInt8) (n k : Nat) (hf : f.length = n) (hg : g.length = n) (hk : k < n) : (mix f g k ++ t).set k (g[k]'(by omega)) = mix f g (k + 1) ++ t := by
  have hl := mix_len f g n k hf hg (by omega)
  rw [List.set_append_left _ _ (by omega)]
  congr 1
  unfold mix
  have h1 : (g.take k).length = k := by rw [List.length_take]; omega
  rw [List.set_append_right _ _ (by omega), h1, Nat.sub_self, List.drop_eq_getElem_cons (show k < f.length by omega), List.set_cons_zero, List.take_succ_eq_append_getElem (by omega : k < g.length), List.append_assoc]
  rfl
theorem flp_at (l : List UInt8) (k : Nat) (hk : k < l.length) : (flp l)[k]'(by rw [flp_len]; exact hk) = l[k] ^^^ 0xFF := by unfold flp; rw [List.getElem_map]
/-- an answer, read -/
theorem Ans.open_ {w w' : World} {q : List UInt8} {E : Int} {e : Ending} (h : Ans w w' q E e) : ∃ A c rb, e = .returned (.tuple #[.slice A q.length c, .int .i64 E]) ∧ LR w' ⟨A, c, rb, q⟩ ∧ (∀ k, rb = some k → w.heap.size ≤ k) ∧ Fr No w w' ∧ BR Any w' A q := by
  obtain ⟨A, c, rb, h1, h2, h3, h4⟩ := h
  exact ⟨A, c, rb, h1, h2, h3, h4, Row.br (D := Any) h2 (fun _ _ => trivial)⟩
theorem LR.any {w : World} {A : Option Addr} {c : Nat} {rb : Option Nat} {q : List UInt8} (h : LR w ⟨A, c, rb, q⟩) : BR Any w A q := Row.br (D := Any) (n := q.length) (c := c) h (fun _ _ => trivial)
set_option maxHeartbeats 8000000 in
set_option maxRecDepth 100000 in
theorem right (op : Bool) (A : Option Addr) (c : Nat) (b : List UInt8) (w : World) (hn : b.length ≤ 140737488351232) (hc : b.length ≤ c) (hA : BR Any w A b) (hT : Tab w) :
    Calls Tryd.prog 16 #[.bool op, .slice A b.length c] w fun e w' => e = .returned (.bool true) ∧ Fr No w w' := by
  obtain ⟨n, hl⟩ : ∃ n, b.length = n := ⟨_, rfl⟩
  have HDO := Lib.hid (fun W (hF : Fr No w W) => doc op A c b W (by omega) hc (hA.fr hF (fun _ _ _ q => q)))
  have HA := Lib.hid hA
  have HT := Lib.hid hT
  have HLn := Lib.hid hl
  have hqn := ansP_len op b hn
  obtain ⟨q, hq⟩ : ∃ q, ansP op b = q := ⟨_, rfl⟩
  obtain ⟨E, hE⟩ : ∃ E, ansE op b = E := ⟨_, rfl⟩
  obtain ⟨m, hm⟩ : ∃ m, q.length = m := ⟨_, rfl⟩
  have HM := Lib.hid hm
  have HQ := Lib.hid hq
  have HE := Lib.hid hE
  rw [hq, hm] at hqn
  rw [hq, hE, hl] at HDO
  rw [hl] at hn hc ⊢
  have HLE := Lib.hid (fun W (hF : Fr No w W) => lent A n c b W hl (by omega) (hA.fr hF (fun _ _ _ q => q)))
  clear hA hT hl hm hq hE
  go_enter Tryd.func16, Tryd.ntmps16
  go_wp2_with fail
  refine (HDO.out w (Fr.refl _ _)).mono ?_
  rintro e w1 h
  obtain ⟨A1, c1, rb1, rfl, hx1, _, hF1, hy1⟩ := h.open_
  have HF1 := Lib.hid hF1
  have HY1 := Lib.hid hy1
  rw [HM.out]
  clear h hx1 hF1 hy1
  go_wp2_with fail
  refine (HLE.out w1 HF1.out).mono ?_
  rintro e w2 ⟨A2, c2, rb2, rfl, hr2, hF2, hn2⟩
  have HF2 := Lib.hid (HF1.out.then_ hF2)
  have HY2 := Lib.hid (HY1.out.fr hF2 (fun _ _ _ q => q))
  have hc2 : n + 8 ≤ c2 := by
    obtain ⟨_, _, hv, hle⟩ := hr2.val
    injection hv with _ _ e3
    omega
  obtain ⟨g2, c2', rfl, hv2, _, _, _⟩ := hr2.at_ (by omega)
  injection hv2 with e1 _ e3
  subst e1 e3
  have hc2n : n ≤ c2 := by omega
  have hc2i : (n : Int) ≤ (c2 : Int) := by omega
  have hn0 : (0 : Int) ≤ (n : Int) := by omega
  have HR2 := Lib.hid hr2
  have HN2 := Lib.hid (show w.heap.size ≤ g2 ∧ g2 < w2.heap.size from ⟨Nat.le_trans HF1.out.size (hn2 g2 rfl), hr2.lt rfl⟩)
  clear hr2 hF2 hn2 HF1 HY1
  have HASK := Lib.hid (fun W (hF : Fr No w2 W) => by
    have := ask op (some ⟨g2, 0, none⟩) c2 b W (by rw [HLn.out]; omega) (by rw [HLn.out]; exact hc2n) (BR.left (Row.br (D := Any) (HR2.out.fr hF (fun _ _ q => q)) (fun _ _ => trivial))) (HT.out.no (HF2.out.then_ hF))
    rw [HQ.out, HE.out, HLn.out] at this
    exact this)
  go_wp2_with fail
  refine (HASK.out w2 (Fr.refl _ _)).mono ?_
  rintro e w3 h
  obtain ⟨A3, c3, rb3, rfl, hx3, hn3, hF3, hy3⟩ := h.open_
  have HF3 := Lib.hid hF3
  have HX3 := Lib.hid hx3
  have HN3 := Lib.hid hn3
  rw [HM.out]
  clear h hx3 hF3 hn3 hy3
  go_wp2_with fail
  refine (HASK.out w3 HF3.out).mono ?_
  rintro e w4 h
  obtain ⟨A4, c4, rb4, rfl, hx4, hn4, hF4, hy4⟩ := h.open_
  have HX34 := Lib.hid (HX3.out.fr hF4 (fun _ _ q => q))
  have HNX := Lib.hid (show ∀ k, rb3 = some k → k < w3.heap.size from fun k hk => Row.lt HX3.out hk)
  have HF4 := Lib.hid (HF3.out.then_ hF4)
  have HX4 := Lib.hid hx4
  have HN4 := Lib.hid hn4
  have HF34 := Lib.hid hF4
  rw [HM.out]
  have hy14 := HY2.out.fr HF4.out (fun _ _ _ q => q)
  have hr4 := HR2.out.fr HF4.out (fun _ _ q => q)
  have HSA := Lib.hid (same A3 A1 m m c3 c1 q q w4 HX34.out.any hy14 HM.out HM.out (by omega) (by omega))
  have HSB := Lib.hid (fun W (hF : Fr No w4 W) => same A4 A1 m m c4 c1 q q W (HX4.out.any.fr hF (fun _ _ _ q => q)) (hy14.fr hF (fun _ _ _ q => q)) HM.out HM.out (by omega) (by omega))
  have HSC := Lib.hid (fun W (hF : Fr No w4 W) => still (some ⟨g2, 0, none⟩) A n c2 c b W HLn.out (by omega) (Row.br (D := Any) (hr4.fr hF (fun _ _ q => q)) (fun _ _ => trivial)) (HA.out.fr (HF2.out.then_ (HF4.out.then_ hF)) (fun _ _ _ q => q)))
  rw [show decide (q = q) = true from decide_eq_true rfl] at HSA HSB
  have bE : (E != E) = false := by simp
  clear h hx4 hF4 hn4 hy4 HX3 hy14 hr4
  go_wp2_with fail
  refine HSA.out.mono ?_
  rintro e w5 ⟨rfl, hF5⟩
  have HF5 := Lib.hid hF5
  clear hF5 HSA
  go_wp2_with fail
  refine (HSB.out w5 HF5.out).mono ?_
  rintro e w6 ⟨rfl, hF6⟩
  have HF6 := Lib.hid (HF5.out.then_ hF6)
  clear hF6 HSB HF5
  go_wp2_with fail
  refine (HSC.out w6 HF6.out).mono ?_
  rintro e w7 ⟨rfl, hF7⟩
  have HF7 := Lib.hid (HF6.out.then_ hF7)
  clear hF7 HSC HF6 bE
  go_upto_region 8 with (fail)
  have hsz2 := HF3.out.size
  have hsz3 := HF34.out.size
  have hsz4 := HF7.out.size
  have hF8 : Fr No w4 (w7.alloc (Obj.cells #[Value.slice none 0 0, Value.slice none 0 0] 56)) := HF7.out.alloc _
  have hH8 : Held w2.heap.size (w7.alloc (Obj.cells #[Value.slice none 0 0, Value.slice none 0 0] 56)) w7.heap.size none none [] [] :=
    ⟨⟨_, _, Bk.new w7 56 [Value.slice none 0 0, Value.slice none 0 0], Row.nil _ _ _, Row.nil _ _ _⟩, rfl, (fun x hx => by cases hx), List.Pairwise.nil, (fun k hk => by cases hk), by omega, (fun k hk => by cases hk), (fun k hk => by cases hk), (fun x hx => by cases hx)⟩
  obtain ⟨hb, hhb⟩ : ∃ hb, w7.heap.size = hb := ⟨_, rfl⟩
  have hb4 : w4.heap.size ≤ hb := by omega
  rw [hhb] at hH8 ⊢
  have hs8 : w2.heap.size ≤ (w7.alloc (Obj.cells #[Value.slice none 0 0, Value.slice none 0 0] 56)).heap.size := by have := hF8.size; omega
  generalize w7.alloc (Obj.cells #[Value.slice none 0 0, Value.slice none 0 0] 56) = w8 at *
  have hK := keep w2.heap.size w8 hb none none [] [] hH8 hs8 ⟨A3, c3, rb3, q⟩ (HX34.out.fr hF8 (fun _ _ q => q)) HN3.out (fun y hy => by cases hy) (by simp) (by have := HM.out; dsimp only; omega)
  dsimp only [HL.v] at hK
  rw [HM.out] at hK
  have HK := Lib.hid hK
  have HF8 := Lib.hid hF8
  have HHB := Lib.hid hb4
  clear hK hH8 hs8 hF8 hhb hb4
  go_upto_region 9 with (fail)
  refine HK.out.mono ?_
  rintro e w9 ⟨rfl, ro9, rw9, y9, hH9, hy9, hyn9, hF9⟩
  have hX9 : LR w9 ⟨A4, c4, rb4, q⟩ := (HX4.out.fr HF8.out (fun _ _ q => q)).fr hF9 (fun k hk e => by
    rcases e with e | e | e
    · subst e
      have h1 := Row.lt HX4.out hk
      have h2 := HHB.out
      omega
    · cases e
    · cases e)
  have hF49 : Fr No w4 w9 := HF8.out.trans hF9 (fun k hk e => by
    rcases e with e | e | e
    · subst e; have h2 := HHB.out; omega
    · cases e
    · cases e)
  have hs9 := hF49.size
  have hK := keep w2.heap.size w9 hb ro9 rw9 _ _ hH9 (by omega) ⟨A4, c4, rb4, q⟩ hX9 (fun k hk => by have := HN4.out k hk; omega) (fun z hz k hk e => by
    have h1 := HN4.out k hk
    have h2 := Row.lt HX4.out hk
    rcases List.mem_append.1 hz with hz | hz
    · rw [List.mem_singleton.1 hz] at e
      have h3 := HNX.out k e
      omega
    · rw [List.mem_singleton.1 hz] at e
      have h3 := hyn9 k e
      have h4 := HF8.out.size
      omega) (by simp) (by have := HM.out; dsimp only; omega)
  dsimp only [HL.v] at hK
  rw [HM.out] at hK
  have HK2 := Lib.hid hK
  have HF9 := Lib.hid hF49
  have HRO9 := Lib.hid hH9.ron
  have HRW9 := Lib.hid hH9.rwn
  have hhb9 := hH9.hbn
  have HY9 := Lib.hid hy9
  clear hK hF49 hX9 hF9 hH9 hy9 hyn9 HK HX34 HX4 HNX HN3 HN4
  go_upto_region 10 with (fail)
  refine HK2.out.mono ?_
  rintro e w10 ⟨rfl, ro10, rw10, y10, hH10, hy10, _, hF10⟩
  have hz10 := hF10.size
  have hF210 : Fr No w2 w10 := (HF4.out.then_ HF9.out).trans hF10 (fun k hk e => by
    rcases e with e | e | e
    · omega
    · have := HRO9.out k e; omega
    · have := HRW9.out k e; omega)
  have hSP := spoil w2.heap.size w10 hb ro10 rw10 _ _ hH10 (by omega) (by simp) (fun x hx => by
    have h1 := HM.out
    rcases List.mem_append.1 hx with hx | hx
    · rcases List.mem_append.1 hx with hx | hx
      · cases hx
      · rw [List.mem_singleton.1 hx]; dsimp only; omega
    · rw [List.mem_singleton.1 hx]; dsimp only; omega)
  have HSP := Lib.hid hSP
  have HF210 := Lib.hid hF210
  clear hSP hF210 hF10 hH10 hy10 HK2 HRO9 HRW9 HF9 HY9 HF8 HF7 HF34 HF4 HF3 hhb9 hz10 hs9 hsz4 hsz3 hsz2
  go_wp2_with fail
  refine HSP.out.mono ?_
  rintro e w11 ⟨rfl, os, ws, hH11, hol, hod, hF11⟩
  have HF11 := Lib.hid (show Fr No w2 w11 from HF210.out.trans hF11 (fun k hk e => by omega))
  have HH11 := Lib.hid hH11
  have HOL := Lib.hid hol
  have HOD := Lib.hid hod
  have hr11 := HR2.out.fr HF11.out (fun _ _ q => q)
  have HSC := Lib.hid (still (some ⟨g2, 0, none⟩) A n c2 c b w11 HLn.out (by omega) (Row.br (D := Any) hr11 (fun _ _ => trivial)) (HA.out.fr (HF2.out.then_ HF11.out) (fun _ _ _ q => q)))
  clear hF11 HSP HF210 hH11 hol hod hr11
  go_wp2_with fail
  refine HSC.out.mono ?_
  rintro e w12 ⟨rfl, hF12⟩
  have HF12 := Lib.hid (HF2.out.then_ (HF11.out.then_ hF12))
  have HR12 := Lib.hid (show Row w12 5 1 (some g2) (.slice (some ⟨g2, 0, none⟩) (n + 8) c2) (n + 8) (bv (mix b (flp b) 0 ++ A5 8)) from HR2.out.fr (HF11.out.then_ hF12) (fun _ _ q => q))
  have HH12 := Lib.hid (HH11.out.fr hF12 (fun _ q => q.elim))
  clear hF12 HSC HH11 HF11
  go_wp2
  go_loopw [13] (fun v wr => ∃ k : Nat, k ≤ n ∧ v = .int .i64 (k : Int) ∧ Hid (Row wr 5 1 (some g2) (.slice (some ⟨g2, 0, none⟩) (n + 8) c2) (n + 8) (bv (mix b (flp b) k ++ A5 8))) ∧ Hid (HeldR w2.heap.size wr hb os ws) ∧ Hid (Fr No w wr)) (fun v _ => n - (intOf v).toNat)
  case atStart => exact ⟨0, Nat.zero_le _, rfl, HR12, HH12, HF12⟩
  case round =>
    clear HR12 HH12 HF12
    obtain ⟨k, hk, rfl, HR, HH, HF⟩ := hrel
    have hw : IntKind.i64.wrap ((k : Int) + 1) = (k : Int) + 1 := IntWalk.i64_in _ (by omega)
    by_cases hlt : k < n
    · have di : decide ((k : Int) < (n : Int)) = true := decide_eq_true (by omega)
      obtain ⟨_, _, hq1, hv1, _, hcell, hfr⟩ := HR.out.at_ (by omega)
      cases hq1
      obtain ⟨x, hxk⟩ : ∃ x, b[k]'(by rw [HLn.out]; exact hlt) = x := ⟨_, rfl⟩
      have c0 := hcell k (.int .u8 (x.toNat : Int)) (by rw [bv, List.getElem?_map, mix_at b (flp b) (A5 8) n k HLn.out (by rw [flp_len]; exact HLn.out) hlt, hxk]; rfl)
      have f0 := hfr k
      have hx := xor_u8 x 255 (by decide) (by decide)
      rw [show UInt8.ofNat (255 : Int).toNat = 0xFF from rfl] at hx
      have HS := Lib.hid (show Row (wr.setCell ⟨g2, k, none⟩ (.int .u8 ((x ^^^ 0xFF).toNat : Int))) 5 1 (some g2) (.slice (some ⟨g2, 0, none⟩) (n + 8) c2) (n + 8) (bv (mix b (flp b) (k + 1) ++ A5 8)) by
        rw [← mix_set b (flp b) (A5 8) n k HLn.out (by rw [flp_len]; exact HLn.out) hlt, ← bv_set, flp_at b k (by rw [HLn.out]; exact hlt), hxk]
        exact HR.out.set rfl k _ (by rw [bv_len, List.length_append, mix_len b (flp b) n k HLn.out (by rw [flp_len]; exact HLn.out) hk]; omega))
      have HF2' := Lib.hid (HF.out.set (p := ⟨g2, k, none⟩) (.inr HN2.out.1) (.int .u8 ((x ^^^ 0xFF).toNat : Int)))
      have HH2' := Lib.hid (HH.out.fr (S := fun x => x = g2) ((Fr.refl (fun x => x = g2) wr).set (p := ⟨g2, k, none⟩) (.inl rfl) (.int .u8 ((x ^^^ 0xFF).toNat : Int))) (fun x hx => by subst hx; exact HN2.out.2))
      generalize x ^^^ 0xFF = Y at *
      have hki : (k : Int) < (n : Int) + 8 := by omega
      have hkn : k < n + 8 := by omega
      clear hxk
      generalize x.toNat = X at *
      clear hcell hfr HR HH HF
      go_wp2
      go_roundw
      case rel => exact ⟨k + 1, by omega, by go_num, HS, HH2', HF2'⟩
      case measure => simp [intOf]; omega
    · obtain rfl : n = k := by omega
      have di : decide ((n : Int) < (n : Int)) = false := decide_eq_false (by omega)
      clear hlt
      have HR1 := Lib.hid (show Row wr 5 1 (some g2) (.slice (some ⟨g2, 0, none⟩) (n + 8) c2) (n + 8) (bv (flp b ++ A5 8)) by
        have := HR.out
        rwa [mix_n b (flp b) n HLn.out (by rw [flp_len]; exact HLn.out)] at this)
      have HHO := Lib.hid (holds w2.heap.size wr hb os ws HH.out (by have := HOL.out; omega) (fun x hx => by have := HOD.out x hx; omega))
      have hfl : (flp b).length = n := by rw [flp_len]; exact HLn.out
      have HFL := Lib.hid hfl
      have hqn' := ansP_len op (flp b) (by rw [hfl]; exact hn)
      obtain ⟨q', hq'⟩ : ∃ q', ansP op (flp b) = q' := ⟨_, rfl⟩
      obtain ⟨E', hE'⟩ : ∃ E', ansE op (flp b) = E' := ⟨_, rfl⟩
      obtain ⟨m', hm'⟩ : ∃ m', q'.length = m' := ⟨_, rfl⟩
      have HM' := Lib.hid hm'
      have HQ' := Lib.hid hq'
      have HE' := Lib.hid hE'
      rw [hq', hm'] at hqn'
      have hfr : ∀ W, Fr No wr W → BR Any W (some ⟨g2, 0, none⟩) (flp b) := fun W hF => BR.left (Row.br (D := Any) (HR1.out.fr hF (fun _ _ q => q)) (fun _ _ => trivial))
      have HCO := Lib.hid (fun W (hF : Fr No wr W) => copiedL (some ⟨g2, 0, none⟩) n c2 (flp b) W hfl (by omega) (hfr W hF))
      have HASK' := Lib.hid (fun W (hF : Fr No wr W) => by
        have := ask op (some ⟨g2, 0, none⟩) c2 (flp b) W (by rw [HFL.out]; omega) (by rw [HFL.out]; exact hc2n) (hfr W hF) (HT.out.no (HF.out.then_ hF))
        rw [HQ'.out, HE'.out, HFL.out] at this
        exact this)
      clear hfr hfl hq' hE' hm' HR
      go_wp2_with fail
      refine HHO.out.mono ?_
      rintro e w13 ⟨rfl, hF13⟩
      have HF13 := Lib.hid hF13
      clear hF13 HHO
      go_wp2_with fail
      refine (HCO.out w13 HF13.out).mono ?_
      rintro e w14 ⟨A14, c14, rb14, rfl, hr14, hF14, _⟩
      have HF14 := Lib.hid (HF13.out.then_ hF14)
      have hle14 : n ≤ c14 := by
        obtain ⟨_, _, hv, hle⟩ := hr14.val
        injection hv with _ _ e3
        omega
      have HDO' := Lib.hid (doc op A14 c14 (flp b) w14 (by rw [HFL.out]; omega) (by rw [HFL.out]; exact hle14) (Row.br (D := Any) hr14 (fun _ _ => trivial)))
      rw [HQ'.out, HE'.out, HFL.out] at HDO'
      clear hF14 HCO HF13 hr14
      go_wp2_with fail
      refine HDO'.out.mono ?_
      rintro e w15 h
      obtain ⟨A15, c15, rb15, rfl, hx15, _, hF15, hy15⟩ := h.open_
      have HF15 := Lib.hid (HF14.out.then_ hF15)
      have HY15 := Lib.hid hy15
      rw [HM'.out]
      clear h hx15 hF15 hy15 HDO' HF14 hle14
      go_wp2_with fail
      refine (HASK'.out w15 HF15.out).mono ?_
      rintro e w16 h
      obtain ⟨A16, c16, rb16, rfl, hx16, _, hF16, hy16⟩ := h.open_
      have HF16 := Lib.hid (HF15.out.then_ hF16)
      have HSA := Lib.hid (same A16 A15 m' m' c16 c15 q' q' w16 hy16 (HY15.out.fr hF16 (fun _ _ _ q => q)) HM'.out HM'.out (by omega) (by omega))
      rw [show decide (q' = q') = true from decide_eq_true rfl] at HSA
      rw [HM'.out]
      have bE : (E' != E') = false := by simp
      clear h hx16 hF16 hy16 HF15 HY15 HASK'
      go_wp2_with fail
      refine HSA.out.mono ?_
      rintro e w17 ⟨rfl, hF17⟩
      have HF17 := Lib.hid (HF16.out.then_ hF17)
      have HRX := Lib.hid (show Row w17 5 1 (some g2) (.slice (some ⟨g2, 0, none⟩) (n + 8) c2) (n + 8) (bv (mix (flp b) b 0 ++ A5 8)) from HR1.out.fr HF17.out (fun _ _ q => q))
      have HHX := Lib.hid (HH.out.fr HF17.out (fun _ q => q.elim))
      have HFX := Lib.hid (HF.out.then_ HF17.out)
      clear hF17 HSA HF16 HF17 bE HH HF HR1
      go_wp2
      go_loopw [15] (fun v wr => ∃ k : Nat, k ≤ n ∧ v = .int .i64 (k : Int) ∧ Hid (Row wr 5 1 (some g2) (.slice (some ⟨g2, 0, none⟩) (n + 8) c2) (n + 8) (bv (mix (flp b) b k ++ A5 8))) ∧ Hid (HeldR w2.heap.size wr hb os ws) ∧ Hid (Fr No w wr)) (fun v _ => n - (intOf v).toNat)
      case atStart => exact ⟨0, Nat.zero_le _, rfl, HRX, HHX, HFX⟩
      case round =>
        clear HRX HHX HFX
        obtain ⟨k, hk, rfl, HR, HH, HF⟩ := hrel
        have hw : IntKind.i64.wrap ((k : Int) + 1) = (k : Int) + 1 := IntWalk.i64_in _ (by omega)
        by_cases hlt : k < n
        · have di2 : decide ((k : Int) < (n : Int)) = true := decide_eq_true (by omega)
          obtain ⟨_, _, hq1, hv1, _, hcell, hfr⟩ := HR.out.at_ (by omega)
          cases hq1
          obtain ⟨x, hxk⟩ : ∃ x, b[k]'(by rw [HLn.out]; exact hlt) = x := ⟨_, rfl⟩
          have c0 := hcell k _ (by rw [bv, List.getElem?_map, mix_at (flp b) b (A5 8) n k (by rw [flp_len]; exact HLn.out) HLn.out hlt]; rfl)
          have f0 := hfr k
          obtain ⟨ad, rfl, b0⟩ := (HA.out.fr HF.out (fun _ _ _ q => q)).at_ k (by rw [HLn.out]; exact hlt)
          rw [hxk] at b0
          have HS := Lib.hid (show Row (wr.setCell ⟨g2, k, none⟩ (.int .u8 (x.toNat : Int))) 5 1 (some g2) (.slice (some ⟨g2, 0, none⟩) (n + 8) c2) (n + 8) (bv (mix (flp b) b (k + 1) ++ A5 8)) by
            rw [← mix_set (flp b) b (A5 8) n k (by rw [flp_len]; exact HLn.out) HLn.out hlt, ← bv_set, hxk]
            exact HR.out.set rfl k _ (by rw [bv_len, List.length_append, mix_len (flp b) b n k (by rw [flp_len]; exact HLn.out) HLn.out hk]; omega))
          have HF2' := Lib.hid (HF.out.set (p := ⟨g2, k, none⟩) (.inr HN2.out.1) (.int .u8 (x.toNat : Int)))
          have HH2' := Lib.hid (HH.out.fr (S := fun x => x = g2) ((Fr.refl (fun x => x = g2) wr).set (p := ⟨g2, k, none⟩) (.inl rfl) (.int .u8 (x.toNat : Int))) (fun x hx => by subst hx; exact HN2.out.2))
          have hki : (k : Int) < (n : Int) + 8 := by omega
          have hkn : k < n + 8 := by omega
          have hkii : (k : Int) < (n : Int) := by omega
          clear hxk hcell hfr HR HH HF
          generalize x.toNat = X at *
          go_wp2
          go_roundw
          case rel => exact ⟨k + 1, by omega, by go_num, HS, HH2', HF2'⟩
          case measure => simp [intOf]; omega
        · obtain rfl : n = k := by omega
          have di2 : decide ((n : Int) < (n : Int)) = false := decide_eq_false (by omega)
          clear hlt
          have HR1 := Lib.hid (show Row wr 5 1 (some g2) (.slice (some ⟨g2, 0, none⟩) (n + 8) c2) (n + 8) (bv (b ++ A5 8)) by
            have := HR.out
            rwa [mix_n (flp b) b n (by rw [flp_len]; exact HLn.out) HLn.out] at this)
          have hfr : ∀ W, Fr No wr W → BR Any W (some ⟨g2, 0, none⟩) (b ++ A5 8) := fun W hF => Row.br (D := Any) (HR1.out.fr hF (fun _ _ q => q)) (fun _ _ => trivial)
          have HASK2 := Lib.hid (fun W (hF : Fr No wr W) => by
            have := ask op (some ⟨g2, 0, none⟩) c2 b W (by rw [HLn.out]; omega) (by rw [HLn.out]; exact hc2n) (BR.left (hfr W hF)) (HT.out.no (HF.out.then_ hF))
            rw [HQ.out, HE.out, HLn.out] at this
            exact this)
          have HSC := Lib.hid (fun W (hF : Fr No wr W) => still (some ⟨g2, 0, none⟩) A n c2 c b W HLn.out (by omega) (hfr W hF) (HA.out.fr (HF.out.then_ hF) (fun _ _ _ q => q)))
          have HHO := Lib.hid (fun W (hF : Fr No wr W) => holds w2.heap.size W hb os ws (HH.out.fr hF (fun _ q => q.elim)) (by have := HOL.out; omega) (fun x hx => by have := HOD.out x hx; omega))
          clear hfr HR
          go_wp2_with fail
          refine (HDO.out wr HF.out).mono ?_
          rintro e w18 h
          obtain ⟨A18, c18, rb18, rfl, hx18, _, hF18, hy18⟩ := h.open_
          have HF18 := Lib.hid hF18
          have HY18 := Lib.hid hy18
          rw [HM.out]
          clear h hx18 hF18 hy18
          go_wp2_with fail
          refine (HASK2.out w18 HF18.out).mono ?_
          rintro e w19 h
          obtain ⟨A19, c19, rb19, rfl, hx19, _, hF19, hy19⟩ := h.open_
          have HF19 := Lib.hid (HF18.out.then_ hF19)
          have HSA := Lib.hid (same A19 A18 m m c19 c18 q q w19 hy19 (HY18.out.fr hF19 (fun _ _ _ q => q)) HM.out HM.out (by omega) (by omega))
          rw [show decide (q = q) = true from decide_eq_true rfl] at HSA
          rw [HM.out]
          have bE : (E == E) = true := by simp
          clear h hx19 hF19 hy19 HF18 HY18 HASK2
          go_wp2_with fail
          refine HSA.out.mono ?_
          rintro e w20 ⟨rfl, hF20⟩
          have HF20 := Lib.hid (HF19.out.then_ hF20)
          clear hF20 HSA HF19
          go_wp2_with fail
          refine (HSC.out w20 HF20.out).mono ?_
          rintro e w21 ⟨rfl, hF21⟩
          have HF21 := Lib.hid (HF20.out.then_ hF21)
          clear hF21 HSC HF20
          go_wp2_with fail
          refine (HHO.out w21 HF21.out).mono ?_
          rintro e w22 ⟨rfl, hF22⟩
          have HF22 := Lib.hid (HF.out.then_ (HF21.out.then_ hF22))
          clear hF22 HHO HF21
          go_wp2
          go_ret
          exact ⟨rfl, HF22.out⟩
set_option maxHeartbeats 2000000 in
theorem makes_walk (A : Option Addr) (c : Nat) (b : List UInt8) (w : World) (hn : b.length ≤ 140737488351232) (hc : b.length ≤ c) (hA : BR Any w A b) (hT : Tab w) :
    Calls Tryd.prog 4 #[.slice A b.length c] w fun e w' => e = .returned (.bool true) ∧ Fr No w w' := by
  have HSH := Lib.hid (shown w hT)
  have HRI := Lib.hid (fun W (hF : Fr No w W) => right false A c b W hn hc (hA.fr hF (fun _ _ _ q => q)) (hT.no hF))
  generalize b.length = n at *
  clear hA hT
  go_enter Tryd.func4, Tryd.ntmps4
  go_wp2_with fail
  refine HSH.out.mono ?_
  rintro e w1 ⟨rfl, hF1⟩
  have HF1 := Lib.hid hF1
  clear hF1
  go_wp2_with fail
  refine (HRI.out w1 HF1.out).mono ?_
  rintro e w2 ⟨rfl, hF2⟩
  have HF2 := Lib.hid (HF1.out.then_ hF2)
  clear hF2
  go_wp2
  go_ret
  exact ⟨rfl, HF2.out⟩
set_option maxHeartbeats 2000000 in
theorem opens_walk (A : Option Addr) (c : Nat) (b : List UInt8) (w : World) (hn : b.length ≤ 140737488351232) (hc : b.length ≤ c) (hA : BR Any w A b) (hT : Tab w) :
    Calls Tryd.prog 5 #[.slice A b.length c] w fun e w' => e = .returned (.bool true) ∧ Fr No w w' := by
  have HSH := Lib.hid (shown w hT)
  have HRI := Lib.hid (fun W (hF : Fr No w W) => right true A c b W hn hc (hA.fr hF (fun _ _ _ q => q)) (hT.no hF))
  generalize b.length = n at *
  clear hA hT
  go_enter Tryd.func5, Tryd.ntmps5
  go_wp2_with fail
  refine HSH.out.mono ?_
  rintro e w1 ⟨rfl, hF1⟩
  have HF1 := Lib.hid hF1
  clear hF1
  go_wp2_with fail
  refine (HRI.out w1 HF1.out).mono ?_
  rintro e w2 ⟨rfl, hF2⟩
  have HF2 := Lib.hid (HF1.out.then_ hF2)
  clear hF2
  go_wp2
  go_ret
  exact ⟨rfl, HF2.out⟩
theorem makes_row (w : World) (hT : Tab w) (A : Option Addr) (c : Nat) (x : List UInt8) (hA : BR Any w A x) (hc : x.length ≤ c) (hb : c ≤ 140737488351232) :
    Calls Tryd.prog 4 #[.slice A x.length c] w fun e w' => e = .returned (.bool true) ∧ Below w.heap.size w w' :=
  (makes_walk A c x w (by omega) hc hA hT).mono fun _ _ ⟨h, h'⟩ => ⟨h, h'.to⟩
theorem opens_row (w : World) (hT : Tab w) (A : Option Addr) (c : Nat) (x : List UInt8) (hA : BR Any w A x) (hc : x.length ≤ c) (hb : c ≤ 140737488351232) :
    Calls Tryd.prog 5 #[.slice A x.length c] w fun e w' => e = .returned (.bool true) ∧ Below w.heap.size w w' :=
  (opens_walk A c x w (by omega) hc hA hT).mono fun _ _ ⟨h, h'⟩ => ⟨h, h'.to⟩
end Go.Proofs.YtfpjdgkooikeoaaDoor.Sl
