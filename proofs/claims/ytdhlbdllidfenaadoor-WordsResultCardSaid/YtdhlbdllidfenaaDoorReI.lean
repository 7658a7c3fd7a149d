/- Words: what ReadResult answers, of any words, is the document's; what it takes, Result writes just so; what was handed out, and in, belongs to the caller: the walk. Conditions: the codes' words and the library's tables lie as the program's text lays them. -/
import Derived.Test.YtdhlbdllidfenaaDoorReH
namespace Go.Proofs.YtdhlbdllidfenaaDoor.Wd
open Go.RowKit Go.Proofs.YtdhlbdllidfenaaDoor.Mem
open Go.Proofs.YtdhlbdllidfenaaDoor.Nu (numL numE wNumber rNumber Vs num_dec num_is)
set_option linter.unusedVariables false
set_option linter.unusedSimpArgs false
theorem Cd.below {w w1 : World} (h : Cd w) (hf : Below w.heap.size w w1) : Cd w1 := h.fr (Fr.of hf No)
theorem Vs.below {w w1 : World} (h : Vs w) (hf : Below w.heap.size w w1) : Vs w1 := Nu.Vs.fr h (Fr.of hf No)
theorem TR.old {w w1 : World} {A : Option Addr} {l : List (List UInt8)} (h : TR Any w A l) (hf : Below w.heap.size w w1) : TR (fun k => k < w.heap.size) w1 A l := fun j u hj => by
  obtain ⟨ad, h1, _, h3⟩ := h j u hj
  have hlt := cell_lt h3
  refine ⟨ad, h1, by rwa [add_block] at hlt, keepC (Fr.of hf No) h3 id⟩
theorem TR.imp {D D' : Nat → Prop} {w : World} {A : Option Addr} {l : List (List UInt8)} (h : TR D w A l) (hd : ∀ k, D k → D' k) : TR D' w A l := fun j u hj => by
  obtain ⟨ad, h1, h2, h3⟩ := h j u hj
  exact ⟨ad, h1, hd _ h2, h3⟩
/-- what a law's own calls may write: what is new, but for these blocks -/
def Nw (n0 : Nat) (ex : List Nat) (k : Nat) : Prop := n0 ≤ k ∧ k ∉ ex
theorem Nw.below {n0 : Nat} {ex : List Nat} {w w1 : World} (h : Fr (Nw n0 ex) w w1) (hn : n0 ≤ w.heap.size) : Below n0 w w1 := h.toB (fun k hk => hk.1) hn
def firstR : List (List UInt8) := [[100, 111, 110, 101], [48], [49], [97], [98]]
set_option maxHeartbeats 8000000 in
set_option maxRecDepth 100000 in
theorem readresult_row (w : World) (hV : Vs w) (hC : Cd w) (A : Option Addr) (c : Nat) (l : List (List UInt8)) (hCl : TR Any w A l ∧ ∀ x ∈ l, x.length ≤ 140737488351232) (hlc : l.length ≤ c) (hby : c * 16 ≤ 140737488351232)
    (A2 : Option Addr) (c2 : Nat) (l2 : List (List UInt8)) (hCl2 : TR Any w A2 l2 ∧ ∀ x ∈ l2, x.length ≤ 140737488351232) (hlc2 : l2.length ≤ c2) (hby2 : c2 * 16 ≤ 140737488351232) :
    Calls Tryd.prog 5 #[.slice A l.length c, .slice A2 l2.length c2] w fun e w' => e = .returned (.bool true) ∧ Below w.heap.size w w' := by
  obtain ⟨n0, hn0⟩ : ∃ n0, w.heap.size = n0 := ⟨_, rfl⟩
  have HVB := Lib.hid (fun W (hW : Below n0 w W) => show Vs W from Vs.below hV (by rw [hn0]; exact hW))
  have HCB := Lib.hid (fun W (hW : Below n0 w W) => show Cd W from Cd.below hC (by rw [hn0]; exact hW))
  have HTB := Lib.hid (fun W (hW : Below n0 w W) => show TR (fun k => k < n0) W A l by have h := TR.old hCl.1 (by rw [hn0]; exact hW); rwa [hn0] at h)
  have HTB2 := Lib.hid (fun W (hW : Below n0 w W) => show TR (fun k => k < n0) W A2 l2 by have h := TR.old hCl2.1 (by rw [hn0]; exact hW); rwa [hn0] at h)
  have HX := Lib.hid hCl.2
  have HX2 := Lib.hid hCl2.2
  obtain ⟨n, hn⟩ : ∃ n, l.length = n := ⟨_, rfl⟩
  obtain ⟨n2, hn2⟩ : ∃ n2, l2.length = n2 := ⟨_, rfl⟩
  rw [hn] at hlc ⊢
  rw [hn2] at hlc2 ⊢
  rw [hn0]
  have HN := Lib.hid hn
  have HN2 := Lib.hid hn2
  have HN0 := Lib.hid hn0
  have hnb : n ≤ 8796093022000 := by omega
  obtain ⟨w1, hw1⟩ : ∃ w1, w.alloc (.cells #[.slice none 0 0, .slice none 0 0, .int .i64 0] 32 (0, 0)) = w1 := ⟨_, rfl⟩
  have hF1 : Fr No w w1 := by rw [← hw1]; exact (Fr.refl _ _).alloc _
  have hK1 : Bk w1 n0 32 [.slice none 0 0, .slice none 0 0, .int .i64 ((0 : Nat) : Int)] := by rw [← hw1, ← hn0]; exact Bk.new w 32 [.slice none 0 0, .slice none 0 0, .int .i64 ((0 : Nat) : Int)]
  obtain ⟨w2, hw2⟩ : ∃ w2, w1.alloc (.cells #[.string ⟨#[100, 111, 110, 101]⟩, .string ⟨#[48]⟩, .string ⟨#[49]⟩, .string ⟨#[97]⟩, .string ⟨#[98]⟩] 9 (0, 0)) = w2 := ⟨_, rfl⟩
  obtain ⟨gf, hgf⟩ : ∃ gf, w.heap.size + 1 = gf := ⟨_, rfl⟩
  have hgf1 : w1.heap.size = gf := by rw [← hgf, ← hw1]; simp
  have hF2 : Fr No w1 w2 := by rw [← hw2]; exact (Fr.refl _ _).alloc _
  have hB2 : Bk w2 gf 9 (firstR.map sv) := by rw [← hw2, ← hgf1]; exact Bk.new w1 9 (firstR.map sv)
  have HTF := Lib.hid (Bk.texts hB2 (fun k => k = gf) rfl)
  have HK2 := Lib.hid (hK1.fr hF2 id)
  have hF02 : Fr No w w2 := hF1.then_ hF2
  have HB2 := Lib.hid (show Below n0 w w2 by rw [← hn0]; exact hF02.to)
  have hgfn : n0 < gf := by omega
  have hgf2 : gf < w2.heap.size := hB2.lt
  have HW1 := Lib.hid hw1
  have HW2 := Lib.hid hw2
  have HGF := Lib.hid hgf
  have HLN := Lib.hid (wLent (some ⟨gf, 0, none⟩) 5 5 firstR rfl (by omega) w2 HTF.out.any)
  clear hF1 hK1 hF2 hB2 hF02 hw1 hw2 hgf hgf1 hn hn2 hn0 hV hC hCl hCl2
  go_enter Tryd.func5, Tryd.ntmps5
  go_upto_region 3 with (fail)
  rw [HW1.out, HW2.out, HGF.out, HN0.out]
  clear HW1 HW2 HGF
  go_wp2_with fail
  refine HLN.out.mono ?_
  rintro e w3 ⟨g1, d1, rfl, hL3, hF3, hg1⟩
  have hgl : g1 < w3.heap.size := by obtain ⟨sp, q, _⟩ := hL3; exact q.lt
  have hB1n : ∀ k, w3.heap.size ≤ k → Nw n0 [gf, g1] k := fun k hk => ⟨by have := HB2.out.size; have := HN0.out; have := hF3.size; omega, by have := hF3.size; simp; omega⟩
  have HB3 := Lib.hid (show Below n0 w w3 from Below.fr0 HB2.out hF3 (by have := HB2.out.size; have := HN0.out; omega))
  have HBA := Lib.hid (backS (Nw n0 [gf, g1]) w3 n0 0 (BkS.first (HK2.out.fr hF3 id) ⟨Nat.le_refl _, by simp; omega⟩) (by omega) hB1n g1 d1 (some ⟨gf, 0, none⟩) 5 5 firstR rfl (by omega) (by omega) (by decide) (by unfold Nw; simp) hL3 ((HTF.out.imp (fun k hk => by subst hk; unfold Nw; simp)).fr hF3 (fun _ _ _ q => q)) (HVB.out w3 HB3.out) (HCB.out w3 HB3.out))
  clear hL3 hF3 hB1n HLN HTF HK2 HB2
  go_wp2_with fail
  refine HBA.out.mono ?_
  rintro e w4 ⟨rfl, hBK4, hF4⟩
  have h3s : n0 ≤ w3.heap.size := by have := HB3.out.size; have := HN0.out; omega
  have HB4 := Lib.hid (show Below n0 w w4 from Below.fr HB3.out hF4 (fun k hk => hk.1) h3s)
  have h34 := hF4.size
  have HLN := Lib.hid (wLent A n c l HN.out hnb w4 (HTB.out w4 HB4.out).any)
  have HBK4 := Lib.hid hBK4
  clear hBK4 hF4 HBA
  go_wp2_with fail
  refine HLN.out.mono ?_
  rintro e w5 ⟨g, d, rfl, hL5, hF5, hg5⟩
  have hgl5 : g < w5.heap.size := by obtain ⟨sp, q, _⟩ := hL5; exact q.lt
  have HNW := Lib.hid (show ∀ k, w5.heap.size ≤ k → Nw n0 [g, gf, g1] k from fun k hk => ⟨by have := hF5.size; omega, by have := hF5.size; simp; omega⟩)
  have HG := Lib.hid (show ¬ Nw n0 [g, gf, g1] g by unfold Nw; simp)
  have HGN := Lib.hid (show n0 ≤ g by omega)
  have HLOW := Lib.hid (show ∀ k, k < n0 → ¬ Nw n0 [g, gf, g1] k from fun k hk q => by have := q.1; omega)
  have HB5 := Lib.hid (show Below n0 w w5 from Below.fr0 HB4.out hF5 (by omega))
  have HBK5 := Lib.hid ((HBK4.out.weaken (B' := Nw n0 [g, gf, g1]) (fun k hk q => ⟨q.1, by have := q.2; simp at this ⊢; omega⟩)).no hF5)
  have HL5 := Lib.hid hL5
  have h5s : n0 ≤ w5.heap.size := by have := hF5.size; omega
  have hnd : n ≤ d := by obtain ⟨sp, _, q, _⟩ := hL5; have := HN.out; omega
  have HBA := Lib.hid (backS (Nw n0 [g, gf, g1]) w5 n0 1 HBK5.out (by omega) HNW.out g d A n c l HN.out hlc hnb HX.out HG.out HL5.out ((HTB.out w5 HB5.out).imp HLOW.out) (HVB.out w5 HB5.out) (HCB.out w5 HB5.out))
  clear hL5 hF5 HLN HBK4 HB4
  have HBN := Lib.hid (show ∀ k, Nw n0 [g, gf, g1] k → n0 ≤ k from fun k hk => hk.1)
  generalize Nw n0 [g, gf, g1] = B at *
  go_wp2_with fail
  refine HBA.out.mono ?_
  rintro e w6 ⟨rfl, hBK6, hF6⟩
  have h56 := hF6.size
  have HB6 := Lib.hid (show Below n0 w w6 from Below.fr HB5.out hF6 HBN.out h5s)
  have HL6 := Lib.hid (HL5.out.fr hF6 HG.out)
  have HNW6 := Lib.hid (show ∀ k, w6.heap.size ≤ k → B k from fun k hk => HNW.out k (Nat.le_trans h56 hk))
  have HBA := Lib.hid (backS B w6 n0 2 hBK6 (by omega) HNW6.out g d A n c l HN.out hlc hnb HX.out HG.out HL6.out ((HTB.out w6 HB6.out).imp HLOW.out) (HVB.out w6 HB6.out) (HCB.out w6 HB6.out))
  clear hF6 HB5 HL5 HNW HBK5 hBK6
  go_wp2_with fail
  refine HBA.out.mono ?_
  rintro e w7 ⟨rfl, hBK7, hF7⟩
  have h67 := hF7.size
  have HBK7 := Lib.hid hBK7
  have HB7 := Lib.hid (show Below n0 w w7 from Below.fr HB6.out hF7 HBN.out (by omega))
  have HL7 := Lib.hid (HL6.out.fr hF7 HG.out)
  have HNW7 := Lib.hid (show ∀ k, w7.heap.size ≤ k → B k from fun k hk => HNW6.out k (Nat.le_trans h67 hk))
  have HRF := Lib.hid (rReadR A n c l HN.out hlc hnb HX.out w7 (HTB.out w7 HB7.out).any)
  have hki := (read_items l)
  rw [HN.out] at hki
  clear hF7 HB6 HL6 HNW6 hBK7 HBA
  obtain ⟨R, hR⟩ : ∃ R, readR l = R := ⟨_, rfl⟩
  have HRW := Lib.hid (fun x k (h : readR l = (x, k, 0)) => read_written h)
  rw [hR] at HRF hki HRW
  have hlne : R.2.2 = 0 → l ≠ [] := fun e0 el => by rw [el] at hR; rw [← hR] at e0; exact absurd e0 (by decide)
  have HLNE := Lib.hid hlne
  obtain ⟨⟨code, num, items⟩, k, er⟩ := R
  unfold Rd RV.v at HRF
  dsimp only at *
  obtain ⟨L, hLL⟩ : ∃ L, items.length = L := ⟨_, rfl⟩
  rw [hLL] at HRF hki
  have HLL := Lib.hid hLL
  obtain ⟨hL8, hkn⟩ := hki
  clear hR hLL hlne
  go_wp2_with fail
  refine HRF.out.mono ?_
  rintro e w8 ⟨A8, c8, rb8, rfl, hT8⟩
  obtain ⟨wx, hwx⟩ : ∃ wx, w8.alloc (.cells #[.int .i64 code, .int .i64 num, .slice A8 L c8] 28 (0, 0)) = wx := ⟨_, rfl⟩
  have hF8x : Fr No w8 wx := by rw [← hwx]; exact (Fr.refl _ _).alloc _
  have hbx : Bk wx w8.heap.size 28 [.int .i64 code, .int .i64 num, .slice A8 L c8] := by rw [← hwx]; exact Bk.new w8 28 [.int .i64 code, .int .i64 num, .slice A8 L c8]
  have HTX := Lib.hid (hT8.quiet hF8x)
  have HF7x := Lib.hid (show Fr No w7 wx from hT8.2.1.then_ hF8x)
  have HBx := Lib.hid (show Below n0 w wx from Below.fr0 HB7.out HF7x.out (by omega))
  clear hT8 hF8x HRF
  by_cases her : er = 0
  case' pos =>
    subst her
    have HRS := Lib.hid (HRW.out _ _ rfl)
    have hrow := HTX.out.1
    rw [HLL.out] at hrow
    have HWR := Lib.hid (wResult ⟨code, num, items⟩ A8 L c8 HLL.out (by omega) wx (Row.tr (D := Any) hrow (fun _ _ => trivial)) (HVB.out wx HBx.out) (HCB.out wx HBx.out))
    rw [HRS.out] at HWR
    unfold Res RV.v at HWR
    dsimp only at HWR
    have hlen : (l.take k).length = k := by rw [List.length_take, HN.out]; omega
    have HKL := Lib.hid hlen
    rw [hlen] at HWR
    obtain ⟨ad, hA⟩ : ∃ ad, A = some ad := by
      have h0 : 0 < l.length := List.length_pos_iff.2 (HLNE.out rfl)
      obtain ⟨ad, hA, _⟩ := (HTB.out wx HBx.out).at_ 0 h0
      exact ⟨ad, hA⟩
    subst hA
    have hkc : k ≤ c := by omega
    have hkci : (k : Int) ≤ (c : Int) := by omega
    have hk0i : (0 : Int) ≤ (k : Int) := by omega
    clear hrow hlen
    obtain ⟨x0, x1, x2, xf⟩ := hbx.three
    clear hbx
    go_wp2_with fail
    try rw [hwx]
    refine HWR.out.mono ?_
    rintro e w10 ⟨A10, c10, rb10, rfl, hT10⟩
    have hrow := hT10.1
    rw [HKL.out] at hrow
    have HB10 := Lib.hid (show Below n0 w w10 from Below.fr0 HBx.out hT10.2.1 (by have := HF7x.out.size; omega))
    have HTX2 := Lib.hid (wTexts A10 (some ad) k c10 k c (l.take k) (l.take k) HKL.out HKL.out (by omega) w10 (Row.tr (D := Any) hrow (fun _ _ => trivial)) (fun j u hj => (HTB.out w10 HB10.out).any j u (by
      rw [List.getElem?_take] at hj
      split at hj
      · exact hj
      · cases hj)))
    rw [show decide (l.take k = l.take k) = true from decide_eq_true rfl] at HTX2
    have HF10 := Lib.hid (HF7x.out.then_ hT10.2.1)
    clear hT10 hrow
    go_wp2_with fail
    refine HTX2.out.mono ?_
    rintro e w11 ⟨rfl, hF11⟩
    have HF11 := Lib.hid (show Fr No w7 w11 from HF10.out.then_ hF11)
    clear hF11 HTX2 HWR HTX
  case' neg =>
    have her' : (er == 0) = false := by rw [beq_eq_false_iff_ne]; exact her
    obtain ⟨w11, hw11⟩ : ∃ w11, wx = w11 := ⟨_, rfl⟩
    have HF11 := Lib.hid (show Fr No w7 w11 by rw [← hw11]; exact HF7x.out)
    rw [hw11] at hwx
    clear HTX hbx
  all_goals
    have h711 := HF11.out.size
    have HB11 := Lib.hid (show Below n0 w w11 from Below.fr0 HB7.out HF11.out (by omega))
    have HL11 := Lib.hid (HL7.out.fr HF11.out id)
    have HNW11 := Lib.hid (show ∀ k, w11.heap.size ≤ k → B k from fun k hk => HNW7.out k (Nat.le_trans h711 hk))
    have HWT := Lib.hid (writeS B w11 n0 3 (HBK7.out.no HF11.out) (by omega) HNW11.out)
    go_wp2_with fail
    try rw [hwx]
    refine HWT.out.mono ?_
    rintro e w12 ⟨rfl, hBK12, hF12⟩
    have h1112 := hF12.size
    have HB12 := Lib.hid (show Below n0 w w12 from Below.fr HB11.out hF12 HBN.out (by omega))
    have HL12 := Lib.hid (HL11.out.fr hF12 HG.out)
    have HNW12 := Lib.hid (show ∀ k, w12.heap.size ≤ k → B k from fun k hk => HNW11.out k (Nat.le_trans h1112 hk))
    have HBA := Lib.hid (backS B w12 n0 6 hBK12 (by omega) HNW12.out g d _ n c l HN.out hlc hnb HX.out HG.out HL12.out ((HTB.out w12 HB12.out).imp HLOW.out) (HVB.out w12 HB12.out) (HCB.out w12 HB12.out))
    clear hF12 HB11 HL11 HNW11 hBK12 HWT
    go_wp2_with fail
    refine HBA.out.mono ?_
    rintro e w13 ⟨rfl, hBK13, hF13⟩
    have h1213 := hF13.size
    have HBK13 := Lib.hid hBK13
    have HB13 := Lib.hid (show Below n0 w w13 from Below.fr HB12.out hF13 HBN.out (by omega))
    have HL13 := Lib.hid (HL12.out.fr hF13 HG.out)
    have HNW13 := Lib.hid (show ∀ k, w13.heap.size ≤ k → B k from fun k hk => HNW12.out k (Nat.le_trans h1213 hk))
    clear hF13 HB12 HL12 HNW12 hBK13 HBA
    go_upto_region 16 with (at_builtin; refine wl_append _ rfl (.const (.slice none 0 0)) (.tmp 70) 26 rfl 9 _ 1 16 Tryd.underlying26 infoStr rfl (by decide) none _ 0 [] rfl (Row.nil _ _ _) _ n c (l.map sv) rfl (by rw [List.length_map, HN.out, Nat.mul_one]) (fun h => (HTB.out w13 HB13.out).cells (by rw [HN.out]; exact h)) (sv_one _) (by unfold maxLen; omega) (by omega) ?_; intro An cn w14 rbn hrn hFn hnbn; rw [Nat.zero_add, List.nil_append] at hrn)
    have hF14 : Fr No w13 w14 := hFn.mono (fun _ _ q => by cases q)
    have h1314 := hF14.size
    have HNB := Lib.hid (show ∀ k, rbn = some k → w13.heap.size ≤ k from fun k hk => by
      rcases hnbn with q | ⟨k', q, hq⟩
      · rw [q] at hk; cases hk
      · rw [q] at hk; cases hk; exact hq)
    have HGL := Lib.hid (show g < w13.heap.size by obtain ⟨sp, q, _⟩ := HL13.out; exact q.lt)
    have HGNB := Lib.hid (show ¬ rbn = some g from fun e => by have := HNB.out g e; have := HGL.out; omega)
    have HBK14 := Lib.hid ((HBK13.out.weaken (B' := fun k => B k ∧ rbn ≠ some k) (fun k hk q => ⟨q, fun e => by have := HNB.out k e; omega⟩)).no hF14)
    have HB14 := Lib.hid (show Below n0 w w14 from Below.fr0 HB13.out hF14 (by omega))
    have HL14 := Lib.hid (HL13.out.fr hF14 id)
    have HNW14 := Lib.hid (show ∀ k, w14.heap.size ≤ k → (B k ∧ rbn ≠ some k) from fun k hk => ⟨HNW13.out k (Nat.le_trans h1314 hk), fun e => by have := Row.lt hrn e; omega⟩)
    have HR14 := Lib.hid hrn
    have hncn : n ≤ cn := by
      obtain ⟨A', c', hv, hle⟩ := hrn.val
      injection hv with _ _ e3
      omega
    clear hrn hFn hnbn hF14 HL13 HB13 HNW13 HBK13
    go_upto_region 17 with (refine wl_copy_row rfl (.tmp 72) (.tmp 73) rfl rbn An n cn l HN.out rfl HR14.out _ n2 c2 l2 HN2.out rfl ((HTB2.out w14 HB14.out).any) ?_; intro w15 hr15 hF15 q15)
    have h1415 := hF15.size
    have HBK15 := Lib.hid (HBK14.out.fr hF15 (fun k hk q => q.2 hk))
    have HB15 := Lib.hid (show Below n0 w w15 from Below.fr HB14.out hF15 (fun k hk => by have := HNB.out k hk; omega) (by omega))
    have HL15 := Lib.hid (HL14.out.fr hF15 HGNB.out)
    have HNW15 := Lib.hid (show ∀ k, w15.heap.size ≤ k → (B k ∧ rbn ≠ some k) from fun k hk => HNW14.out k (Nat.le_trans h1415 hk))
    have HNX := Lib.hid (show ∀ x ∈ laidOver l l2, x.length ≤ 140737488351232 from fun x hx => by
      rcases over_mem hx with q | q
      · exact HX.out x q
      · exact HX2.out x q)
    have HNLL := Lib.hid (show (laidOver l l2).length = n by rw [over_len]; exact HN.out)
    generalize laidOver l l2 = nl at *
    have HR15 := Lib.hid hr15
    obtain ⟨sp, hBG, hl1, hl2, hl3⟩ := HL15.out
    rw [HN.out] at hl1 hl3
    have HBG := Lib.hid hBG
    have HSP := Lib.hid hl3
    clear hr15 hF15 hBG hl3 HR14 HL14 HB14 HNW14 HBK14
    go_upto_region 18 with (refine wl_copy w15 rfl (.tmp 75) (.tmp 76) 26 26 rfl 9 Tryd.underlying26 infoS1 g 0 n d An n cn rfl rfl 9 _ HBG.out (nl.map sv) (by rw [List.length_map, HNLL.out]; exact (Nat.min_self n).symm) (fun h => (Row.tr (D := Any) HR15.out (fun _ _ => trivial)).cells (by rw [List.length_map] at h; exact h)) (by rw [List.length_map, HNLL.out, List.length_append, List.length_map, List.length_append, HN.out]; omega) (sv_one _) ?_; intro w16 hB16 hF16)
    have h1516 := hF16.size
    have HL16 := Lib.hid (Lent.swap (m := nl) (l := l) (sp := sp) (c := d) (by rw [HN.out]; exact HNLL.out) rfl hB16 (by rw [HN.out]; exact hl1) hl2 (by rw [HN.out]; exact HSP.out))
    have HBK16 := Lib.hid (HBK15.out.fr hF16 (fun k hk q => by subst hk; exact HG.out q.1))
    have HB16 := Lib.hid (show Below n0 w w16 from Below.fr HB15.out hF16 (fun k hk => by subst hk; exact HGN.out) (by omega))
    have HNW16 := Lib.hid (show ∀ k, w16.heap.size ≤ k → (B k ∧ rbn ≠ some k) from fun k hk => HNW15.out k (Nat.le_trans h1516 hk))
    have HR16 := Lib.hid (HR15.out.fr hF16 (fun k hk e => HGNB.out (by rw [← e]; exact hk)))
    have HBA := Lib.hid (backS (fun k => B k ∧ rbn ≠ some k) w16 n0 7 HBK16.out (by omega) HNW16.out g d An n cn nl HNLL.out hncn hnb HNX.out (fun q => HG.out q.1) HL16.out (Row.tr (D := fun k => ¬ (B k ∧ rbn ≠ some k)) HR16.out (fun k hk q => q.2 hk)) (HVB.out w16 HB16.out) (HCB.out w16 HB16.out))
    clear hB16 hF16 HL15 HB15 HNW15 HBK15 HR15 HBG
    go_wp2_with fail
    refine HBA.out.mono ?_
    rintro e w17 ⟨rfl, hBK17, hF17⟩
    have h1617 := hF17.size
    have HB17 := Lib.hid (show Below n0 w w17 from Below.fr HB16.out hF17 (fun k hk => HBN.out k hk.1) (by omega))
    have HL17 := Lib.hid (HL16.out.fr hF17 (fun q => HG.out q.1))
    have HR17 := Lib.hid (HR16.out.fr hF17 (fun k hk q => q.2 hk))
    have HNW17 := Lib.hid (show ∀ k, w17.heap.size ≤ k → (B k ∧ rbn ≠ some k) from fun k hk => HNW16.out k (Nat.le_trans h1617 hk))
    have HWT := Lib.hid (writeS (fun k => B k ∧ rbn ≠ some k) w17 n0 8 hBK17 (by omega) HNW17.out)
    clear hF17 HL16 HB16 HNW16 HBK16 HR16 hBK17 HBA
    go_wp2_with fail
    refine HWT.out.mono ?_
    rintro e w18 ⟨rfl, hBK18, hF18⟩
    have h1718 := hF18.size
    have HB18 := Lib.hid (show Below n0 w w18 from Below.fr HB17.out hF18 (fun k hk => HBN.out k hk.1) (by omega))
    have HST := Lib.hid (wStill g d nl n HNLL.out An cn nl HNLL.out hnb w18 (HL17.out.fr hF18 (fun q => HG.out q.1)) (Row.tr (D := Any) (HR17.out.fr hF18 (fun k hk q => q.2 hk)) (fun _ _ => trivial)))
    rw [show decide (nl = nl) = true from decide_eq_true rfl] at HST
    clear hF18 HL17 HB17 HNW17 HR17 hBK18 HWT
    go_wp2_with fail
    refine HST.out.mono ?_
    rintro e w19 ⟨rfl, hF19⟩
    have HB19 := Lib.hid (show Below n0 w w19 from Below.fr0 HB18.out hF19 (by omega))
    clear hF19
    go_wp2
    go_ret
    exact ⟨by simp, HB19.out⟩
end Go.Proofs.YtdhlbdllidfenaaDoor.Wd
