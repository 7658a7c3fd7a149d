/- Words: are two results the same; what ReadResult answers is the document's, and is kept: walked. Conditions: the codes' words and the library's tables lie as the program's text lays them. -/
import Derived.Test.YtdhlbdllidfenaaDoorReF
import Derived.Test.YtdhlbdllidfenaaDoorBkI
namespace Go.Proofs.YtdhlbdllidfenaaDoor.Wd
open Go.RowKit Go.Proofs.YtdhlbdllidfenaaDoor.Mem
open Go.Proofs.YtdhlbdllidfenaaDoor.Nu (numL numE wNumber rNumber Vs num_dec num_is)
set_option linter.unusedVariables false
set_option linter.unusedSimpArgs false
set_option maxHeartbeats 4000000 in
set_option maxRecDepth 100000 in
theorem wResults (x : RV) (A B : Option Addr) (n c d : Nat) (hl : x.items.length = n) (hn : n ≤ 8796093022000) (w : World) (hA : TR Any w A x.items) (hB : TR Any w B x.items) :
    Calls Tryd.prog 17 #[x.v A n c, x.v B n d] w fun e w' => e = .returned (.bool true) ∧ Fr No w w' := by
  have HT := Lib.hid (fun W (hW : Fr No w W) => wTexts A B n c n d x.items x.items hl hl (by omega) W (hA.fr hW (fun _ _ _ q => q)) (hB.fr hW (fun _ _ _ q => q)))
  rw [show decide (x.items = x.items) = true from decide_eq_true rfl] at HT
  obtain ⟨code, num, items⟩ := x
  unfold RV.v
  dsimp only at *
  clear hA hB hl
  go_enter Tryd.func17, Tryd.ntmps17
  go_wp2_with fail
  refine (HT.out _ (((Fr.refl _ _).alloc _).alloc _)).mono ?_
  rintro e w2 ⟨rfl, hF2⟩
  have HF2 := Lib.hid ((((Fr.refl No w).alloc _).alloc _).then_ hF2)
  clear hF2 HT
  go_wp2
  go_ret
  exact ⟨by simp, HF2.out⟩
theorem Bok.weaken {B B' : Nat → Prop} {w : World} {hb m : Nat} {ro rw : Option Nat} {oo wo of wf : List TL} (h : Bok B w hb ro rw m oo wo of wf) (hB : ∀ k, k < w.heap.size → B k → B' k) : Bok B' w hb ro rw m oo wo of wf := by
  obtain ⟨vo, vw, h1, h2, h3⟩ := h.bk
  exact ⟨h.bk, h.lo, h.lw, h.eo, h.ef, h.rd, h.lr, h.ap, h.ne, hB _ h1.lt h.hbn, fun k hk => hB k (h2.lt hk) (h.ron k hk), fun k hk => hB k (h3.lt hk) (h.rwn k hk), fun x hx k hk => hB k (Row.lt (h.lr x hx) hk) (h.xn x hx k hk), fun x hx hd ad hA => hB _ (by
    have hp : 0 < x.d.length := List.length_pos_iff.2 hd
    obtain ⟨ad', e, d, c⟩ := h.rd x hx 0 x.d[0] (List.getElem?_eq_getElem hp)
    rw [hA] at e
    cases e
    exact d.1.lt) (h.ob x hx hd ad hA)⟩
theorem TR.frS {S D : Nat → Prop} {w w1 : World} {A : Option Addr} {l : List (List UInt8)} (h : TR D w A l) (hf : Fr S w w1) (hb : l ≠ [] → ∀ ad, A = some ad → ¬ S ad.block) : TR D w1 A l := fun j u hj => by
  obtain ⟨ad, h1, h2, h3⟩ := h j u hj
  have hl : l ≠ [] := fun e => by subst e; simp at hj
  exact ⟨ad, h1, h2, keepC hf h3 (by rw [add_block]; exact hb hl ad h1)⟩
theorem TR.bt {S : Nat → Prop} {fs : List TL} {w w1 : World} {A : Option Addr} {l : List (List UInt8)} (h : TR (Far fs w) w1 A l) (hf : Fr S w w1) (hb : l ≠ [] → ∀ ad, A = some ad → ¬ S ad.block) : TR (Far fs w1) w1 A l := fun j u hj => by
  obtain ⟨ad, h1, ⟨h2, h4⟩, h3⟩ := h j u hj
  have hl : l ≠ [] := fun e => by subst e; simp at hj
  exact ⟨ad, h1, ⟨h2.fr hf (hb hl ad h1), h4⟩, h3⟩
/-- what is written lies apart from the book -/
theorem Bok.fr {B S : Nat → Prop} {w w1 : World} {hb m : Nat} {ro rw : Option Nat} {oo wo of wf : List TL} (h : Bok B w hb ro rw m oo wo of wf) (hf : Fr S w w1) (hS : ∀ k, S k → ¬ B k) : Bok B w1 hb ro rw m oo wo of wf := by
  obtain ⟨vo, vw, h1, h2, h3⟩ := h.bk
  exact ⟨⟨vo, vw, h1.fr hf (fun q => hS _ q h.hbn), h2.fr hf (fun k hk q => hS _ q (h.ron k hk)), h3.fr hf (fun k hk q => hS _ q (h.rwn k hk))⟩, h.lo, h.lw, h.eo, h.ef, fun x hx => ((h.rd x hx).frS hf (fun hd ad hA q => hS _ q (h.ob x hx hd ad hA))).bt hf (fun hd ad hA q => hS _ q (h.ob x hx hd ad hA)), fun x hx => (h.lr x hx).fr hf (fun k hk q => hS _ q (h.xn x hx k hk)), h.ap, h.ne, h.hbn, h.ron, h.rwn, h.xn, h.ob⟩
set_option maxHeartbeats 4000000 in
set_option maxRecDepth 100000 in
theorem bback (B : Nat → Prop) (w : World) (hb : Nat) (ro rw : Option Nat) (m : Nat) (oo wo of wf : List TL) (h : Bok B w hb ro rw m oo wo of wf) (hB : ∀ k, w.heap.size ≤ k → B k) (hs : Small oo of)
    (g d : Nat) (A : Option Addr) (n c : Nat) (l : List (List UInt8)) (hl : l.length = n) (hlc : n ≤ c) (hn : n ≤ 8796093022000) (hx : ∀ x ∈ l, x.length ≤ 140737488351232) (hg : ¬ B g) (hL : Lent w g d l) (hT : TR (fun k => ¬ B k) w A l) (hV : Vs w) (hC : Cd w) :
    Calls Tryd.prog 18 #[.pointer (some ⟨hb, 0, none⟩), .slice (some ⟨g, 0, none⟩) n d, .slice A n c] w fun e w' => e = .returned (.bool true) ∧ ∃ ro' rw' x y, Bok B w' hb ro' rw' m oo wo (of ++ [x]) (wf ++ [y]) ∧ x.d.length ≤ 8 ∧ Fr B w w' := by
  have H := Lib.hid h
  have HS := Lib.hid hs
  have HLE := Lib.hid hL
  have HT := Lib.hid hT
  have HL := Lib.hid hl
  have hnd : n ≤ d := by obtain ⟨_, _, h3, _⟩ := hL; omega
  have HW := Lib.hid (wReadR (some ⟨g, 0, none⟩) n d l hl hnd hn hx w (hL.tr (D := Any) trivial) hV hC)
  have HR := Lib.hid (fun W (hW : Fr No w W) => rReadR A n c l hl hlc hn hx W (hT.any.fr hW (fun _ _ _ q => q)))
  have hcount := (read_items l).1
  obtain ⟨R, hR⟩ : ∃ R, readR l = R := ⟨_, rfl⟩
  rw [hR] at HW HR hcount
  obtain ⟨⟨code, num, items⟩, k, er⟩ := R
  unfold Rd RV.v at HW HR
  dsimp only at HW HR hcount
  obtain ⟨L, hLL⟩ : ∃ L, items.length = L := ⟨_, rfl⟩
  rw [hLL] at HW HR hcount
  have HLL := Lib.hid hLL
  clear hR h hs hL hT hV hC hx hl hLL
  go_enter Tryd.func18, Tryd.ntmps18
  go_wp2_with fail
  refine HW.out.mono ?_
  rintro ee w1 ⟨A1, c1, rb1, rfl, hT1⟩
  have HT1 := Lib.hid hT1
  obtain ⟨wx, hwx⟩ : ∃ wx, w1.alloc (.cells #[.int .i64 code, .int .i64 num, .slice A1 L c1] 28 (0, 0)) = wx := ⟨_, rfl⟩
  obtain ⟨bx, hbx⟩ : ∃ bx, w1.heap.size = bx := ⟨_, rfl⟩
  have HXX := Lib.hid (show Bk wx bx 28 [.int .i64 code, .int .i64 num, .slice A1 L c1] by rw [← hwx, ← hbx]; exact Bk.new w1 28 [.int .i64 code, .int .i64 num, .slice A1 L c1])
  have hF1x : Fr No w1 wx := by rw [← hwx]; exact (Fr.refl _ _).alloc _
  have HFX := Lib.hid (show Fr No w wx from hT1.2.1.then_ hF1x)
  have HTX := Lib.hid (hT1.quiet hF1x)
  clear hT1 HT1 HW hF1x
  go_wp2_with fail
  try rw [hwx]
  try rw [hbx]
  clear hwx hbx
  refine (HR.out wx HFX.out).mono ?_
  rintro ee w2 ⟨A2, c2, rb2, rfl, hT2⟩
  have HT2 := Lib.hid hT2
  obtain ⟨wy, hwy⟩ : ∃ wy, w2.alloc (.cells #[.int .i64 code, .int .i64 num, .slice A2 L c2] 28 (0, 0)) = wy := ⟨_, rfl⟩
  obtain ⟨by_, hby⟩ : ∃ by_, w2.heap.size = by_ := ⟨_, rfl⟩
  have HYY := Lib.hid (show Bk wy by_ 28 [.int .i64 code, .int .i64 num, .slice A2 L c2] by rw [← hwy, ← hby]; exact Bk.new w2 28 [.int .i64 code, .int .i64 num, .slice A2 L c2])
  have hF2y : Fr No w2 wy := by rw [← hwy]; exact (Fr.refl _ _).alloc _
  have hFxy : Fr No wx wy := hT2.2.1.then_ hF2y
  have HFY := Lib.hid (show Fr No w wy from HFX.out.then_ hFxy)
  have HXY := Lib.hid (HXX.out.fr hFxy id)
  have HTY := Lib.hid (HTX.out.quiet hFxy)
  have HRY := Lib.hid (hT2.quiet hF2y)
  obtain ⟨x0, x1, x2, xf⟩ := HXY.out.three
  obtain ⟨y0, y1, y2, yf⟩ := HYY.out.three
  clear hT2 HT2 HXX HTX HR hF2y hFxy
  have HLT := Lib.hid (show LT wy ⟨A1, c1, rb1, items⟩ by
    show Row wy 9 1 rb1 (.slice A1 items.length c1) items.length (items.map sv)
    have h := HTY.out.1
    rw [HLL.out] at h ⊢
    exact h)
  have hsz := HFY.out.size
  have HK := Lib.hid (bkeep B wy hb ro rw m oo wo of wf (H.out.no HFY.out) (fun k hk => hB k (Nat.le_trans hsz hk)) ⟨A1, c1, rb1, items⟩ HLT.out (fun k hk => hB k (HTY.out.2.2 k hk)) (fun y hy k hk e => by
      have h1 := HTY.out.2.2 k hk
      have h2 := (Row.bt (H.out.lr y hy) e).lt
      omega) (fun z hz k hk => (H.out.rd z hz).low HFY.out (HTY.out.2.2 k hk)) (by have := HS.out.1; omega) (by have := HLL.out; show items.length ≤ _; omega))
  unfold TL.v at HK
  dsimp only at HK
  rw [HLL.out] at HK
  go_wp2_with fail
  try rw [hwy]
  try rw [hby]
  clear hwy hby
  refine HK.out.mono ?_
  rintro ee w3 ⟨rfl, ro', rw', y, hbok, hyd, _, hF3⟩
  have HBOK := Lib.hid hbok
  have hns : ∀ k, BT wy k 9 → ¬ (k = hb ∨ ro = some k ∨ rw = some k) := fun k hk q => by
    obtain ⟨vo, vw, g1, g2, g3⟩ := (H.out.no HFY.out).bk
    rcases q with rfl | q | q
    · exact hk.ne g1.bt (by decide) rfl
    · exact hk.ne (g2.bt q) (by decide) rfl
    · exact hk.ne (g3.bt q) (by decide) rfl
  have hnr : ∀ k, BT wy k 28 → ¬ (k = hb ∨ ro = some k ∨ rw = some k) := fun k hk q => by
    obtain ⟨vo, vw, g1, g2, g3⟩ := (H.out.no HFY.out).bk
    rcases q with rfl | q | q
    · exact hk.ne g1.bt (by decide) rfl
    · exact hk.ne (g2.bt q) (by decide) rfl
    · exact hk.ne (g3.bt q) (by decide) rfl
  have hsB : ∀ k, k = hb ∨ ro = some k ∨ rw = some k → B k := fun k q => by
    rcases q with rfl | q | q
    · exact H.out.hbn
    · exact H.out.ron k q
    · exact H.out.rwn k q
  have HF3 := Lib.hid (show Fr B w w3 from (HFY.out.mono (S' := B) (fun _ _ q => q.elim)).trans hF3 (fun k _ q => hsB k q))
  have hx3 := HXY.out.fr hF3 (hnr _ HXY.out.bt)
  have hy3 := HYY.out.fr hF3 (hnr _ HYY.out.bt)
  have hrow1 : LT w3 ⟨A1, c1, rb1, items⟩ := hbok.lr _ (by simp)
  have hrow2 := Row.fr HRY.out.1 hF3 (fun k hk => hns k (Row.bt HRY.out.1 hk))
  rw [HLL.out] at hrow2
  have HRS := Lib.hid (fun W (hW : Fr No w3 W) => wResults ⟨code, num, items⟩ A1 A2 L c1 c2 HLL.out (by omega) W (Row.tr (D := Any) (Row.fr hrow1 hW (fun _ _ q => q)) (fun _ _ => trivial)) (Row.tr (D := Any) (hrow2.fr hW (fun _ _ q => q)) (fun _ _ => trivial)))
  unfold RV.v at HRS
  dsimp only at HRS
  have HLE3 := Lib.hid ((HLE.out.fr HFY.out id).fr hF3 (fun q => hg (hsB g q)))
  have HT3 := Lib.hid (show TR Any w3 A l from ((HT.out.fr HFY.out (fun _ _ _ q => q)).fr hF3 (fun k _ d q => d (hsB k q))).any)
  have HST := Lib.hid (fun W (hW : Fr No w3 W) => wStill g d l n HL.out A c l HL.out hn W (HLE3.out.fr hW id) (HT3.out.fr hW (fun _ _ _ q => q)))
  rw [show decide (l = l) = true from decide_eq_true rfl] at HST
  obtain ⟨x0, x1, x2, xf⟩ := hx3.three
  obtain ⟨y0, y1, y2, yf⟩ := hy3.three
  clear hbok hyd hF3 hx3 hy3 hrow1 hrow2 hns hnr HK HLT HXY HYY HTY HRY
  go_wp2_with fail
  refine (HRS.out w3 (Fr.refl _ _)).mono ?_
  rintro ee w4 ⟨rfl, hF4⟩
  go_wp2_with fail
  refine (HST.out w4 hF4).mono ?_
  rintro ee w5 ⟨rfl, hF5⟩
  have hF35 := hF4.then_ hF5
  have HB5 := Lib.hid (HBOK.out.no hF35)
  have HF5 := Lib.hid (show Fr B w w5 from HF3.out.trans hF35 (fun _ _ q => q.elim))
  have HHO := Lib.hid (bholds B w5 hb ro' rw' m oo wo (of ++ [⟨A1, c1, rb1, items⟩]) (wf ++ [y]) HB5.out (by have := HS.out.1; rw [← List.append_assoc, List.length_append]; simp at this ⊢; omega) (fun z hz => by
    rw [← List.append_assoc] at hz
    rcases List.mem_append.1 hz with hz | hz
    · have := HS.out.2 z hz; omega
    · rw [List.mem_singleton.1 hz]; have := HLL.out; show items.length ≤ _; omega))
  clear hF4 hF5 hF35
  go_wp2_with fail
  refine HHO.out.mono ?_
  rintro ee w6 ⟨rfl, hF6⟩
  have HB6 := Lib.hid (HB5.out.no hF6)
  have HF6 := Lib.hid (show Fr B w w6 from HF5.out.trans hF6 (fun _ _ q => q.elim))
  clear hF6
  go_wp2
  go_ret
  exact ⟨by simp, ro', rw', _, y, HB6.out, by have := HLL.out; show items.length ≤ _; omega, HF6.out⟩
end Go.Proofs.YtdhlbdllidfenaaDoor.Wd
