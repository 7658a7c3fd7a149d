/- Words: what Result answers is the document's, and is kept: walked. Conditions: the codes' words and the library's tables lie as the program's text lays them. -/
import Derived.Test.YtdhlbdllidfenaaDoorReH
namespace Go.Proofs.YtdhlbdllidfenaaDoor.Wd
open Go.RowKit Go.Proofs.YtdhlbdllidfenaaDoor.Mem
open Go.Proofs.YtdhlbdllidfenaaDoor.Nu (numL numE wNumber rNumber Vs num_dec num_is)
set_option linter.unusedVariables false
set_option linter.unusedSimpArgs false
set_option maxHeartbeats 4000000 in
set_option maxRecDepth 100000 in
theorem bresult (B : Nat → Prop) (w : World) (hb : Nat) (ro rw : Option Nat) (m : Nat) (oo wo of wf : List TL) (h : Bok B w hb ro rw m oo wo of wf) (hB : ∀ k, w.heap.size ≤ k → B k) (hs : Small oo of)
    (x : RV) (g d : Nat) (A : Option Addr) (n c : Nat) (hl : x.items.length = n) (hn : n ≤ 8796093022000) (hg : ¬ B g) (hL : Lent w g d x.items) (hT : TR (fun k => ¬ B k) w A x.items) (hV : Vs w) (hC : Cd w) :
    Calls Tryd.prog 11 #[.pointer (some ⟨hb, 0, none⟩), x.v (some ⟨g, 0, none⟩) n d, x.v A n c] w fun e w' => e = .returned (.bool true) ∧ ∃ ro' rw' y z, Bok B w' hb ro' rw' m oo wo (of ++ [y]) (wf ++ [z]) ∧ y.d.length ≤ 11 ∧ Fr B w w' := by
  have H := Lib.hid h
  have HS := Lib.hid hs
  have HLE := Lib.hid hL
  have HT := Lib.hid hT
  have HL := Lib.hid hl
  have HW := Lib.hid (fun W (hW : Fr No w W) => wResult x (some ⟨g, 0, none⟩) n d hl hn W ((hL.tr (D := Any) trivial).fr hW (fun _ _ _ q => q)) (Nu.Vs.fr hV hW) (hC.fr hW))
  have HR := Lib.hid (fun W (hW : Fr No w W) => rResult x A n c hl hn W (hT.any.fr hW (fun _ _ _ q => q)))
  have hcount := res_len x
  obtain ⟨R, hR⟩ : ∃ R, resW x = R := ⟨_, rfl⟩
  rw [hR] at HW HR hcount
  obtain ⟨ws, er⟩ := R
  obtain ⟨code, num, items⟩ := x
  unfold Res at HW HR
  unfold RV.v at *
  dsimp only at *
  obtain ⟨L, hLL⟩ : ∃ L, ws.length = L := ⟨_, rfl⟩
  rw [hLL] at HW HR hcount
  have HLL := Lib.hid hLL
  obtain ⟨w1, hw1⟩ : ∃ w1, (w.alloc (.cells #[.int .i64 code, .int .i64 num, .slice (some ⟨g, 0, none⟩) n d] 28 (0, 0))).alloc (.cells #[.int .i64 code, .int .i64 num, .slice A n c] 28 (0, 0)) = w1 := ⟨_, rfl⟩
  have hF1 : Fr No w w1 := by rw [← hw1]; exact ((Fr.refl _ _).alloc _).alloc _
  have HXA := Lib.hid (show Bk w1 w.heap.size 28 [.int .i64 code, .int .i64 num, .slice (some ⟨g, 0, none⟩) n d] by rw [← hw1]; exact (Bk.new w 28 [.int .i64 code, .int .i64 num, .slice (some ⟨g, 0, none⟩) n d]).alloc _)
  have HXB := Lib.hid (show Bk w1 (w.heap.size + 1) 28 [.int .i64 code, .int .i64 num, .slice A n c] by
    rw [← hw1]
    have := Bk.new (w.alloc (.cells #[.int .i64 code, .int .i64 num, .slice (some ⟨g, 0, none⟩) n d] 28 (0, 0))) 28 [.int .i64 code, .int .i64 num, .slice A n c]
    rwa [show (w.alloc (.cells #[.int .i64 code, .int .i64 num, .slice (some ⟨g, 0, none⟩) n d] 28 (0, 0))).heap.size = w.heap.size + 1 by simp] at this)
  have HF1 := Lib.hid hF1
  have HW1 := Lib.hid hw1
  obtain ⟨x0, x1, x2, xf⟩ := HXA.out.three
  obtain ⟨y0, y1, y2, yf⟩ := HXB.out.three
  clear hR h hs hL hT hV hC hl hLL hF1 hw1
  go_enter Tryd.func11, Tryd.ntmps11
  go_upto_region 1 with (fail)
  rw [HW1.out]
  go_wp2_with fail
  refine (HW.out w1 HF1.out).mono ?_
  rintro ee w2 ⟨A1, c1, rb1, rfl, hT1⟩
  have HT1 := Lib.hid hT1
  have HF2 := Lib.hid (HF1.out.then_ hT1.2.1)
  have HXA2 := Lib.hid (HXA.out.fr hT1.2.1 id)
  have HXB2 := Lib.hid (HXB.out.fr hT1.2.1 id)
  clear hT1 x0 x1 x2 xf y0 y1 y2 yf HXA HXB HW
  obtain ⟨y0, y1, y2, yf⟩ := HXB2.out.three
  go_wp2_with fail
  refine (HR.out w2 HF2.out).mono ?_
  rintro ee w3 ⟨A2, c2, rb2, rfl, hT2⟩
  have HT2 := Lib.hid hT2
  have HF3 := Lib.hid (HF2.out.then_ hT2.2.1)
  have HXA3 := Lib.hid (HXA2.out.fr hT2.2.1 id)
  have HXB3 := Lib.hid (HXB2.out.fr hT2.2.1 id)
  have HT13 := Lib.hid (HT1.out.quiet hT2.2.1)
  clear hT2 y0 y1 y2 yf HXA2 HXB2 HR HT1
  have HLT := Lib.hid (show LT w3 ⟨A1, c1, rb1, ws⟩ by
    show Row w3 9 1 rb1 (.slice A1 ws.length c1) ws.length (ws.map sv)
    have h := HT13.out.1
    rw [HLL.out] at h ⊢
    exact h)
  have hsz := HF3.out.size
  have hsz1 := HF1.out.size
  have HK := Lib.hid (bkeep B w3 hb ro rw m oo wo of wf (H.out.no HF3.out) (fun k hk => hB k (Nat.le_trans hsz hk)) ⟨A1, c1, rb1, ws⟩ HLT.out (fun k hk => hB k (Nat.le_trans hsz1 (HT13.out.2.2 k hk))) (fun y hy k hk e => by
      have h1 := HT13.out.2.2 k hk
      have h2 := (Row.bt (H.out.lr y hy) e).lt
      omega) (fun z hz k hk => (H.out.rd z hz).low HF3.out (Nat.le_trans hsz1 (HT13.out.2.2 k hk))) (by have := HS.out.1; omega) (by have := HLL.out; show ws.length ≤ _; omega))
  unfold TL.v at HK
  dsimp only at HK
  rw [HLL.out] at HK
  go_wp2_with fail
  refine HK.out.mono ?_
  rintro ee w4 ⟨rfl, ro', rw', y, hbok, hyd, _, hF4⟩
  have HBOK := Lib.hid hbok
  have hns : ∀ t k, t ≠ 32 → t ≠ 26 → BT w3 k t → ¬ (k = hb ∨ ro = some k ∨ rw = some k) := fun t k ht1 ht2 hk q => by
    obtain ⟨vo, vw, g1, g2, g3⟩ := (H.out.no HF3.out).bk
    rcases q with rfl | q | q
    · exact hk.ne g1.bt ht1 rfl
    · exact hk.ne (g2.bt q) ht2 rfl
    · exact hk.ne (g3.bt q) ht2 rfl
  have hsB : ∀ k, k = hb ∨ ro = some k ∨ rw = some k → B k := fun k q => by
    rcases q with rfl | q | q
    · exact H.out.hbn
    · exact H.out.ron k q
    · exact H.out.rwn k q
  have HF4 := Lib.hid (show Fr B w w4 from (HF3.out.mono (S' := B) (fun _ _ q => q.elim)).trans hF4 (fun k _ q => hsB k q))
  have hx4 := HXA3.out.fr hF4 (hns 28 _ (by decide) (by decide) HXA3.out.bt)
  have hy4 := HXB3.out.fr hF4 (hns 28 _ (by decide) (by decide) HXB3.out.bt)
  have hrow1 : LT w4 ⟨A1, c1, rb1, ws⟩ := hbok.lr _ (by simp)
  have hrow2 := Row.fr HT2.out.1 hF4 (fun k hk => hns 9 k (by decide) (by decide) (Row.bt HT2.out.1 hk))
  rw [HLL.out] at hrow2
  have HTX := Lib.hid (wTexts A1 A2 L c1 L c2 ws ws HLL.out HLL.out (by omega) w4 (Row.tr (D := Any) hrow1 (fun _ _ => trivial)) (Row.tr (D := Any) hrow2 (fun _ _ => trivial)))
  rw [show decide (ws = ws) = true from decide_eq_true rfl] at HTX
  have HLE4 := Lib.hid ((HLE.out.fr HF3.out id).fr hF4 (fun q => hg (hsB g q)))
  have HT4 := Lib.hid (show TR Any w4 A items from ((HT.out.fr HF3.out (fun _ _ _ q => q)).fr hF4 (fun k _ d q => d (hsB k q))).any)
  have HST := Lib.hid (fun W (hW : Fr No w4 W) => wStill g d items n HL.out A c items HL.out hn W (HLE4.out.fr hW id) (HT4.out.fr hW (fun _ _ _ q => q)))
  rw [show decide (items = items) = true from decide_eq_true rfl] at HST
  have HXA4 := Lib.hid hx4
  have HXB4 := Lib.hid hy4
  clear hbok hyd hF4 hx4 hy4 hrow1 hrow2 hns HK HLT HXA3 HXB3 HT13
  go_wp2_with fail
  refine HTX.out.mono ?_
  rintro ee w5 ⟨rfl, hF5⟩
  have HF45 := Lib.hid hF5
  obtain ⟨x0, x1, x2, xf⟩ := (HXA4.out.fr hF5 id).three
  obtain ⟨y0, y1, y2, yf⟩ := (HXB4.out.fr hF5 id).three
  clear hF5 HTX
  go_wp2_with fail
  refine (HST.out w5 HF45.out).mono ?_
  rintro ee w6 ⟨rfl, hF6⟩
  have hF46 := HF45.out.then_ hF6
  have HB6 := Lib.hid (HBOK.out.no hF46)
  have HF6 := Lib.hid (show Fr B w w6 from HF4.out.trans hF46 (fun _ _ q => q.elim))
  have HHO := Lib.hid (bholds B w6 hb ro' rw' m oo wo (of ++ [⟨A1, c1, rb1, ws⟩]) (wf ++ [y]) HB6.out (by have := HS.out.1; rw [← List.append_assoc, List.length_append]; simp at this ⊢; omega) (fun z hz => by
    rw [← List.append_assoc] at hz
    rcases List.mem_append.1 hz with hz | hz
    · have := HS.out.2 z hz; omega
    · rw [List.mem_singleton.1 hz]; have := HLL.out; show ws.length ≤ _; omega))
  clear hF6 hF46 x0 x1 x2 xf y0 y1 y2 yf
  go_wp2_with fail
  refine HHO.out.mono ?_
  rintro ee w7 ⟨rfl, hF7⟩
  have HB7 := Lib.hid (HB6.out.no hF7)
  have HF7 := Lib.hid (show Fr B w w7 from HF6.out.trans hF7 (fun _ _ q => q.elim))
  clear hF7
  go_wp2
  go_ret
  exact ⟨by simp, ro', rw', _, y, HB7.out, by have := HLL.out; show ws.length ≤ _; omega, HF7.out⟩
theorem resultS (B : Nat → Prop) (w : World) (hb cnt : Nat) (h : BkS B w hb cnt) (hc : cnt ≤ 1000) (hB : ∀ k, w.heap.size ≤ k → B k)
    (x : RV) (g d : Nat) (A : Option Addr) (n c : Nat) (hl : x.items.length = n) (hn : n ≤ 8796093022000) (hg : ¬ B g) (hL : Lent w g d x.items) (hT : TR (fun k => ¬ B k) w A x.items) (hV : Vs w) (hC : Cd w) :
    Calls Tryd.prog 11 #[.pointer (some ⟨hb, 0, none⟩), x.v (some ⟨g, 0, none⟩) n d, x.v A n c] w fun e w' => e = .returned (.bool true) ∧ BkS B w' hb (cnt + 1) ∧ Fr B w w' := by
  obtain ⟨ro, rw, m, oo, wo, of, wf, h1, h2, h3, h4⟩ := h
  refine (bresult B w hb ro rw m oo wo of wf h1 hB (BkS.small hc h2 h3 h4) x g d A n c hl hn hg hL hT hV hC).mono ?_
  rintro e w' ⟨rfl, ro', rw', y, z, g1, g2, g3⟩
  exact ⟨rfl, BkS.more g1 h2 h3 h4 (by omega), g3⟩
end Go.Proofs.YtdhlbdllidfenaaDoor.Wd
