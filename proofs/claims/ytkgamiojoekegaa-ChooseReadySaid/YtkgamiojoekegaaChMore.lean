/- The law ChooseMore: its walk. Conditions: none. -/
import Derived.Test.YtkgamiojoekegaaChM
import Derived.Test.YtkgamiojoekegaaChBel
import Derived.Deep.DeepCutAuto
namespace Go.Proofs.Ytkgamiojoekegaa.Ch
open Go.RowKit Go.Proofs.YtkgamiojoekegaaW.PrintWords Go.Proofs.Ytkgamiojoekegaa.PChooseReady
set_option linter.unusedVariables false

def fits0 (n me v : Int) (x : S27) : Bool := decide (0 ≤ x.f0) && decide (x.f0 < n) && decide (x.f0 ≠ me) && decide (x.f1 < v)
def fitsJ (n me v : Int) (x : S27) (l : List S27) (j : Nat) : Bool := fits0 n me v x && (l.take j).all (fun y => decide (y.f0 ≠ x.f0))
theorem fits0_no (n me v : Int) (x : S27) (h : x.f0 < 0 ∨ n ≤ x.f0 ∨ x.f0 = me ∨ v ≤ x.f1) : fits0 n me v x = false := by
  simp only [fits0, Bool.and_eq_false_iff, decide_eq_false_iff_not]; omega
theorem fits0_yes (n me v : Int) (x : S27) (h0 : 0 ≤ x.f0) (h1 : x.f0 < n) (h2 : x.f0 ≠ me) (h3 : x.f1 < v) : fits0 n me v x = true := by
  simp only [fits0, Bool.and_eq_true, decide_eq_true_eq]; exact ⟨⟨⟨h0, h1⟩, h2⟩, h3⟩
theorem fitsJ_zero (n me v : Int) (x : S27) (l : List S27) : fitsJ n me v x l 0 = fits0 n me v x := by simp [fitsJ]
theorem fitsJ_succ (n me v : Int) (x : S27) (l : List S27) (j : Nat) (h : j < l.length) : fitsJ n me v x l (j + 1) = (fitsJ n me v x l j && decide ((rd_T27 l (j : Int)).f0 ≠ x.f0)) := by
  unfold fitsJ
  rw [take_at l j h, List.all_append, Bool.and_assoc]
  simp
theorem fitsJ_end (n me v : Int) (x : S27) (l : List S27) (h : fitsJ n me v x l l.length = true) : 0 ≤ x.f0 ∧ x.f0 < n ∧ x.f0 ≠ me ∧ x.f1 < v ∧ ∀ y ∈ l, y.f0 ≠ x.f0 := by
  simp only [fitsJ, fits0, Bool.and_eq_true, decide_eq_true_eq, List.take_length, List.all_eq_true] at h
  exact ⟨h.1.1.1.1, h.1.1.1.2, h.1.1.2, h.1.2, h.2⟩

theorem new' (w : World) (o : Obj) (n : Nat) (h : n = w.heap.size) : (w.alloc o).heap[n]? = some o := by subst h; exact Blk.new _ _
theorem Own.alloc {w : World} {base : Nat} {v : Value} {l : List S27} (h : Own w base v l) (o : Obj) : Own (w.alloc o) base v l := World.ownsRow.alloc h o
theorem Own.base {w : World} {base : Nat} {v : Value} {l : List S27} (h : Own w base v l) (k : Nat) (hk : v.ownBlock = some k) : base ≤ k := own_base h k hk
theorem cells_lit (w : World) (p : S27) : ∀ j u, (cells27 [p])[j]? = some u → (w.alloc (.cells #[.int .i64 p.f0, .int .i64 p.f1, .bool p.f2] 27 (0, 0))).cell? ((⟨w.heap.size, 0, none⟩ : Addr).add j) = some u := by
  intro j u hj
  rw [add_plain, Blk.cell (Blk.new _ _)]
  simpa [cells27] using hj
set_option maxHeartbeats 4000000 in
set_option maxRecDepth 100000 in
theorem more_walk (n me floor : Int) (A : Option Addr) (c : Nat) (l : List S27) (x : S27) (pl : Int) (w : World) (hn : (Lit.int .i64 n).wf = true) (hA : Kd.C k27 w A l.length l) (hc : l.length ≤ c) (hpl : (Lit.int .i64 pl).wf = true) :
    Calls Try.prog 7 #[.int .i64 n, .int .i64 me, .int .i64 floor, .slice A l.length c, .agg #[.int .i64 x.f0, .int .i64 x.f1, .bool x.f2], .int .i64 pl] w fun e w' => e = .returned (.bool true) ∧ Below w.heap.size w w' := by
  have hC := Lib.hid hA
  clear hA
  go_enter Try.func7, Try.ntmps7
  go_wp2_with fail
  have hx0 : (w.alloc (.cells #[.int .i64 x.f0, .int .i64 x.f1, .bool x.f2] 27 (0, 0))).heap[w.heap.size]? = some (.cells #[.int .i64 x.f0, .int .i64 x.f1, .bool x.f2] 27 (0, 0)) := Blk.new _ _
  have hB0 : Below w.heap.size w (w.alloc (.cells #[.int .i64 x.f0, .int .i64 x.f1, .bool x.f2] 27 (0, 0))) := (Below.refl _ _).alloc (Nat.le_refl _) _
  refine (ready_any 3 0 0 _ _ [⟨1, 4, true⟩, ⟨2, 3, false⟩] _ (C_block _ (by decide) (new' _ _ _ (by simp)))).mono ?_
  rintro e w1 ⟨rfl, hB1⟩
  have hx1 := Blk.below (Blk.alloc hx0 _) hB1
  have hB : Below w.heap.size w w1 := (hB0.alloc hB0.size _).trans (hB1.mono (by simp; omega))
  clear hB1 hx0 hB0
  rw [lit_ready]
  unfold tup
  go_wp2_with fail
  refine (ready_any n me floor A c l _ (Kd.C_below hC.out hB)).mono ?_
  rintro e w2 ⟨rfl, hB1⟩
  have hx2 := Lib.hid (Blk.below hx1 hB1)
  have hB2 : Below w.heap.size w w2 := hB.trans (hB1.mono hB.size)
  clear hB1 hB hx1
  have hbx : w.heap.size < w2.heap.size := Blk.lt hx2.out
  have hle0 : w.heap.size ≤ w.heap.size := Nat.le_refl _
  obtain ⟨bx, hbxe⟩ : ∃ bx, w.heap.size = bx := ⟨_, rfl⟩
  obtain ⟨p, hp⟩ : ∃ p, readyS n me floor l = p := ⟨_, rfl⟩
  have HT := Lib.hid (ready_true n me floor l)
  have HR := Lib.hid hp
  rw [hp] at HT ⊢
  clear hp
  obtain ⟨a, b, e⟩ := p
  unfold tup
  dsimp only at HT HR ⊢
  cases b with
  | false =>
    clear hbxe
    go_wp2
    go_ret
    exact ⟨rfl, hB2⟩
  | true =>
    obtain ⟨he, hs, hq, hu, hf, hm0, hm1, hall, k, hk, ha, hp⟩ := HT.out rfl
    subst he ha
    have hn7 : n = 3 ∨ n = 5 ∨ n = 7 := by simp [sized] at hs; omega
    have hl7 : l.length ≤ 7 := by simp [sized] at hs; omega
    have n3 : 3 ≤ n := by omega
    have n7 : n ≤ 7 := by omega
    obtain ⟨ad, ha, g0, g1, g2⟩ := at_T27 (Kd.C_below hC.out hB2) (k : Int) (by omega) (by omega)
    subst ha
    simp only [Int.toNat_natCast] at g0 g1 g2
    obtain ⟨v, hv⟩ : ∃ v, (rd_T27 l (k : Int)).f1 = v := ⟨_, rfl⟩
    rw [hv] at g1
    have HV := Lib.hid hv
    clear hv hp hall hn7 hq hs hu hf HT
    have x0 := Blk.cell hx2.out 0
    have x1 := Blk.cell hx2.out 1
    have x2 := Blk.cell hx2.out 2
    rw [hbxe] at hx2 x0 x1 x2 hbx ⊢
    simp only [List.getElem?_toArray, List.getElem?_cons_zero, List.getElem?_cons_succ] at x0 x1 x2
    go_upto_region 9 with fail
    go_cut [19] (fun s wx => s = .bool (fits0 n me v x) ∧ Below w2.heap.size w2 wx)
    case first =>
      by_cases c1 : x.f0 < 0
      · have HF := Lib.hid (fits0_no n me v x (.inl c1))
        have d1 : decide (0 ≤ x.f0) = false := decide_eq_false (by omega)
        go_quiet (fail)
        go_wp2_with fail
        go_meet
        exact ⟨by rw [HF.out], pw_below_drewN (Below.refl _ _) _⟩
      have d1 : decide (0 ≤ x.f0) = true := decide_eq_true (by omega)
      by_cases c2 : n ≤ x.f0
      · have HF := Lib.hid (fits0_no n me v x (.inr (.inl c2)))
        have d2 : decide (x.f0 < n) = false := decide_eq_false (by omega)
        go_quiet (fail)
        go_wp2_with fail
        go_meet
        exact ⟨by rw [HF.out], pw_below_drewN (Below.refl _ _) _⟩
      have d2 : decide (x.f0 < n) = true := decide_eq_true (by omega)
      by_cases c3 : x.f0 = me
      · have HF := Lib.hid (fits0_no n me v x (.inr (.inr (.inl c3))))
        have d3 : (x.f0 != me) = false := bne_eq_false_iff_eq.mpr c3
        have d3' : (x.f0 == me) = true := beq_iff_eq.mpr c3
        clear c3
        go_quiet (fail)
        go_wp2_with fail
        go_meet
        exact ⟨by rw [HF.out], pw_below_drewN (Below.refl _ _) _⟩
      have d3 : (x.f0 != me) = true := bne_iff_ne.mpr c3
      have d3' : (x.f0 == me) = false := beq_eq_false_iff_ne.mpr c3
      by_cases c4 : v ≤ x.f1
      · have HF := Lib.hid (fits0_no n me v x (.inr (.inr (.inr c4))))
        have d4 : decide (x.f1 < v) = false := decide_eq_false (by omega)
        clear c3
        go_quiet (fail)
        go_wp2_with fail
        go_meet
        exact ⟨by rw [HF.out], pw_below_drewN (Below.refl _ _) _⟩
      have d4 : decide (x.f1 < v) = true := decide_eq_true (by omega)
      have HF := Lib.hid (fits0_yes n me v x (by omega) (by omega) c3 (by omega))
      clear c3
      go_quiet (fail)
      go_wp2_with fail
      go_meet
      exact ⟨by rw [HF.out], pw_below_drewN (Below.refl _ _) _⟩
    case rest =>
      obtain ⟨rfl, hBc⟩ := hcut
      have hxc := Lib.hid (Blk.below hx2.out hBc)
      have hB3 : Below bx w wc := hbxe ▸ hB2.trans (hBc.mono hB2.size)
      have hbl : bx < wc.heap.size := Nat.lt_of_lt_of_le hbx hBc.size
      have HBX := Lib.hid hbxe
      clear hx2 hBc hB2 x0 x1 x2 g0 g1 g2 hbx hbxe hle0
      go_wp2
      go_loopw [19, 97] (fun s i wr => ∃ j : Nat, j ≤ l.length ∧ i = .int .i64 j ∧ s = .bool (fitsJ n me v x l j) ∧ Hid (wr.heap[bx]? = some (.cells #[.int .i64 x.f0, .int .i64 x.f1, .bool x.f2] 27 (0, 0))) ∧ Below bx w wr) (fun _ i _ => l.length - (intOf i).toNat)
      case atStart => exact ⟨0, Nat.zero_le _, rfl, by rw [fitsJ_zero], hxc, hB3⟩
      case round =>
        clear hxc hB3 hbl
        obtain ⟨j, hj, rfl, rfl, hx, hB⟩ := hrel
        have x0 := Blk.cell hx.out 0
        have x1 := Blk.cell hx.out 1
        have x2 := Blk.cell hx.out 2
        simp only [List.getElem?_toArray, List.getElem?_cons_zero, List.getElem?_cons_succ] at x0 x1 x2
        have hbl := Blk.lt hx.out
        have hBW : Below w.heap.size w wr := HBX.out.symm ▸ hB
        by_cases hlt : j < l.length
        · have HJ := Lib.hid (fitsJ_succ n me v x l j hlt)
          obtain ⟨ad', ha, g0, g1, g2⟩ := at_T27 (Kd.C_below hC.out hBW) (j : Int) (by omega) (by omega)
          obtain rfl := Option.some.inj ha
          clear ha
          simp only [Int.toNat_natCast] at g0 g1 g2
          obtain ⟨y, hy⟩ : ∃ y, rd_T27 l (j : Int) = y := ⟨_, rfl⟩
          rw [hy] at g0 g1 g2 HJ
          clear hy hBW
          cases hF : fitsJ n me v x l j with
          | false =>
            rw [hF] at HJ
            go_wp2
            go_roundw
            case rel => exact ⟨j + 1, by omega, by go_num, by rw [HJ.out]; rfl, Blk.alloc hx.out _, hB.alloc (by omega) _⟩
            case measure => simp [intOf]; omega
          | true =>
            rw [hF] at HJ
            by_cases hy : y.f0 = x.f0
            · have d1 : (y.f0 != x.f0) = false := bne_eq_false_iff_eq.mpr hy
              have d2 : (y.f0 == x.f0) = true := beq_iff_eq.mpr hy
              have HD := Lib.hid (show decide (y.f0 ≠ x.f0) = false by simp [hy])
              clear hy
              go_wp2
              go_roundw
              case rel => exact ⟨j + 1, by omega, by go_num, by rw [HJ.out, HD.out]; rfl, Blk.alloc hx.out _, hB.alloc (by omega) _⟩
              case measure => simp [intOf]; omega
            · have d1 : (y.f0 != x.f0) = true := bne_iff_ne.mpr hy
              have d2 : (y.f0 == x.f0) = false := beq_eq_false_iff_ne.mpr hy
              have HD := Lib.hid (show decide (y.f0 ≠ x.f0) = true by simp [hy])
              clear hy
              go_wp2
              go_roundw
              case rel => exact ⟨j + 1, by omega, by go_num, by rw [HJ.out, HD.out]; rfl, Blk.alloc hx.out _, hB.alloc (by omega) _⟩
              case measure => simp [intOf]; omega
        · obtain rfl : j = l.length := by omega
          cases hF : fitsJ n me v x l l.length with
          | false =>
            go_wp2
            go_ret
            exact ⟨rfl, hBW⟩
          | true =>
            have HF := Lib.hid (fitsJ_end n me v x l hF)
            clear hF
            obtain ⟨K, hK, hKl⟩ : ∃ K : Nat, amongS pl ((l.length : Int) + 1) = (K : Int) ∧ K ≤ l.length := by
              have h1 : amongS pl ((l.length : Int) + 1) = pl % ((l.length : Int) + 1) := by rw [amongS, if_neg (by omega)]
              have h2 := Int.emod_nonneg pl (show ((l.length : Int) + 1) ≠ 0 by omega)
              have h3 := Int.emod_lt_of_pos pl (show (0 : Int) < (l.length : Int) + 1 by omega)
              exact ⟨(pl % ((l.length : Int) + 1)).toNat, by rw [h1]; omega, by omega⟩
            have HAM := Lib.hid (among12 pl ((l.length : Int) + 1) wr (by omega) hpl)
            rw [hK] at HAM
            clear hK
            have HMO := Lib.hid (fun hT he => more_ok n me floor l x K k hT hk he HF.out.1 HF.out.2.1 HF.out.2.2.1 (by rw [HV.out]; exact HF.out.2.2.2.1) HF.out.2.2.2.2 hKl)
            rw [HR.out] at HMO
            replace HMO := Lib.hid (HMO.out rfl rfl)
            have HCK := Lib.hid (rfl : l = l)
            have hlt1 : (l.take K).length = K := by simp; omega
            have hlt2 : (l.drop K).length = l.length - K := by simp
            clear x0 x1 x2
            go_wp2_with fail
            refine HAM.out.mono ?_
            rintro e w4 ⟨rfl, hB4⟩
            have hx4 := Lib.hid (Blk.below hx.out hB4)
            have hB5 : Below bx w w4 := hB.trans (hB4.mono (by omega))
            have hbl4 : bx < w4.heap.size := Blk.lt hx4.out
            clear hB4 hB hBW hbl hx HAM
            have HT1 := Lib.hid hlt1
            have HT2 := Lib.hid hlt2
            clear hlt1 hlt2
            have hCt : ∀ (W : World), Below bx w W → ∀ j u, (cells27 (l.take K))[j]? = some u → W.cell? (ad.add j) = some u := by
              intro W hW j u hj
              have h1 : (cells27 l)[j]? = some u := by
                have e : cells27 l = cells27 (l.take K) ++ cells27 (l.drop K) := by rw [← cells27_append, List.take_append_drop]
                rw [e, List.getElem?_append_left (List.getElem?_eq_some_iff.1 hj).1]; exact hj
              exact C_cells (Kd.C_below hC.out (HBX.out.symm ▸ hW)) j u h1
            have HCT := Lib.hid hCt
            clear hCt
            go_wp2_with (at_builtin; refine append27 rfl (.const (.slice none 0 0)) (.tmp 119) rfl w4.heap.size (.slice none 0 0) [] rfl (Own.nil _ _) ad K c (l.take K) rfl HT1.out (HCT.out _ hB5) (by simp [HT1.out]; omega) (Nat.le_refl _) ?_)
            intro v1 w5 hown1 hg1
            replace hown1 : Own w5 w4.heap.size v1 (l.take K) := hown1
            have hx5 := Lib.hid (show w5.heap[bx]? = _ from (hg1.block bx hbl4 (by simp [Value.ownBlock])).trans hx4.out)
            have hB6 : Below bx w w5 := hB5.grown hg1 (by omega) (by simp [Value.ownBlock])
            have hsz5 := hg1.size
            have HO1 := Lib.hid hown1
            clear hown1 hg1 hB5 hx4
            have x0 := Blk.cell hx5.out 0
            have x1 := Blk.cell hx5.out 1
            have x2 := Blk.cell hx5.out 2
            replace x0 : w5.cell? ⟨bx, 0, none⟩ = some (.int .i64 x.f0) := x0
            replace x1 : w5.cell? ⟨bx, 1, none⟩ = some (.int .i64 x.f1) := x1
            replace x2 : w5.cell? ⟨bx, 2, none⟩ = some (.bool x.f2) := x2
            go_wp2_with (at_builtin; refine append27 rfl (.tmp 121) (.tmp 123) rfl w4.heap.size v1 (l.take K) rfl (HO1.out.alloc _) ⟨w5.heap.size, 0, none⟩ 1 1 [x] rfl rfl (cells_lit w5 x) (by rw [HT1.out]; simp; omega) (by simp; omega) ?_)
            intro v2 w6 hown2 hg2
            have hB7 : Below bx w w6 := (hB6.alloc (by omega) _).grown hg2 (by simp; omega) (fun k hk => by have := HO1.out.base k hk; omega)
            have hsz6 : w4.heap.size ≤ w6.heap.size := by have := hg2.size; simp at this; omega
            have HO2 := Lib.hid hown2
            clear hown2 hg2 hB6 x0 x1 x2
            have hCd : ∀ (W : World), Below bx w W → ∀ (a : Addr), (K < l.length → a = ad.add (K * 3)) → ∀ j u, (cells27 (l.drop K))[j]? = some u → W.cell? (a.add j) = some u := by
              intro W hW a ha j u hj
              have hjl := (List.getElem?_eq_some_iff.1 hj).1
              rw [cells27_length] at hjl
              have hKl' : K < l.length := by simp at hjl; omega
              rw [ha hKl', Deep.add_add]
              have h1 : (cells27 l)[K * 3 + j]? = some u := by
                have e : cells27 l = cells27 (l.take K) ++ cells27 (l.drop K) := by rw [← cells27_append, List.take_append_drop]
                have e2 : (cells27 (l.take K)).length = K * 3 := by rw [cells27_length, HT1.out]
                rw [e, List.getElem?_append_right (by omega), e2, Nat.add_sub_cancel_left]; exact hj
              exact C_cells (Kd.C_below hC.out (HBX.out.symm ▸ hW)) _ u h1
            have HCD := Lib.hid hCd
            clear hCd
            by_cases hcK : c = K
            · obtain rfl := hcK
              go_wp2_with (at_builtin; refine append27 rfl (.tmp 125) (.tmp 128) rfl w4.heap.size v2 (l.take c ++ [x]) rfl HO2.out ad _ _ (l.drop c) rfl (by have := HT2.out; simp; try omega) (HCD.out _ hB7 _ (fun h => absurd h (by omega))) (by simp; omega) hsz6 ?_)
              intro v3 w7 hown3 hg3
              have hB8 : Below bx w w7 := hB7.grown hg3 (by omega) (fun k hk => by have := HO2.out.base k hk; omega)
              clear hg3 hB7
              obtain ⟨bi, hbi, hrd, hbe⟩ := HMO.out
              obtain ⟨mo, hmo⟩ : ∃ mo, l.take c ++ [x] ++ l.drop c = mo := ⟨_, rfl⟩
              rw [hmo] at hbi hrd hbe
              replace hown3 : Own w7 w4.heap.size v3 mo := by rw [← hmo]; simpa using hown3
              have hml : mo.length ≤ 8 := by rw [← hmo]; simp; omega
              clear hmo HMO HO2
              obtain ⟨A3, c3, hv3, hC3, hl3⟩ := hown3.reads (by omega)
              rw [hv3]
              clear hown3 hv3
              have HC3 := Lib.hid hC3
              have HRD := Lib.hid hrd
              have HBE := Lib.hid hbe
              have hRA := Lib.hid (ready_any n me floor A3 c3 mo w7 hC3)
              rw [hrd] at hRA
              unfold tup at hRA
              clear hC3 hrd hbe
              go_wp2_with fail
              refine hRA.out.mono ?_
              rintro e w8 ⟨rfl, hB9⟩
              have hB10 : Below w.heap.size w w8 := HBX.out.symm ▸ hB8.trans (hB9.mono (by have := hB8.size; have := HBX.out; omega))
              obtain ⟨a3, ha3, q0, q1, q2⟩ := at_T27 (Kd.C_below HC3.out hB9) (bi : Int) (by omega) (by omega)
              subst ha3
              obtain ⟨a4, ha4, r0, r1, r2⟩ := at_T27 (Kd.C_below hC.out hB10) (k : Int) (by omega) (by omega)
              obtain rfl := Option.some.inj ha4
              simp only [Int.toNat_natCast] at q0 q1 q2 r0 r1 r2
              rw [HBE.out] at q0 q1 q2
              obtain ⟨y, hy⟩ : ∃ y, rd_T27 l (k : Int) = y := ⟨_, rfl⟩
              rw [hy] at q0 q1 q2 r0 r1 r2
              clear hy ha4 hB9 hB8
              go_wp2
              go_quiet (fail)
              go_wp2
              go_ret
              exact ⟨by simp, pw_below_drewN hB10 _⟩
            · go_wp2_with (at_builtin; refine append27 rfl (.tmp 125) (.tmp 128) rfl w4.heap.size v2 (l.take K ++ [x]) rfl HO2.out (ad.add (K * 3)) (l.length - K) (c - K) (l.drop K) rfl HT2.out (HCD.out _ hB7 _ (fun h => rfl)) (by simp; omega) hsz6 ?_)
              intro v3 w7 hown3 hg3
              have hB8 : Below bx w w7 := hB7.grown hg3 (by omega) (fun k hk => by have := HO2.out.base k hk; omega)
              clear hg3 hB7
              obtain ⟨bi, hbi, hrd, hbe⟩ := HMO.out
              obtain ⟨mo, hmo⟩ : ∃ mo, l.take K ++ [x] ++ l.drop K = mo := ⟨_, rfl⟩
              rw [hmo] at hbi hrd hbe
              replace hown3 : Own w7 w4.heap.size v3 mo := by rw [← hmo]; simpa using hown3
              have hml : mo.length ≤ 8 := by rw [← hmo]; simp; omega
              clear hmo HMO HO2
              obtain ⟨A3, c3, hv3, hC3, hl3⟩ := hown3.reads (by omega)
              rw [hv3]
              clear hown3 hv3
              have HC3 := Lib.hid hC3
              have HRD := Lib.hid hrd
              have HBE := Lib.hid hbe
              have hRA := Lib.hid (ready_any n me floor A3 c3 mo w7 hC3)
              rw [hrd] at hRA
              unfold tup at hRA
              clear hC3 hrd hbe
              go_wp2_with fail
              refine hRA.out.mono ?_
              rintro e w8 ⟨rfl, hB9⟩
              have hB10 : Below w.heap.size w w8 := HBX.out.symm ▸ hB8.trans (hB9.mono (by have := hB8.size; have := HBX.out; omega))
              obtain ⟨a3, ha3, q0, q1, q2⟩ := at_T27 (Kd.C_below HC3.out hB9) (bi : Int) (by omega) (by omega)
              subst ha3
              obtain ⟨a4, ha4, r0, r1, r2⟩ := at_T27 (Kd.C_below hC.out hB10) (k : Int) (by omega) (by omega)
              obtain rfl := Option.some.inj ha4
              simp only [Int.toNat_natCast] at q0 q1 q2 r0 r1 r2
              rw [HBE.out] at q0 q1 q2
              obtain ⟨y, hy⟩ : ∃ y, rd_T27 l (k : Int) = y := ⟨_, rfl⟩
              rw [hy] at q0 q1 q2 r0 r1 r2
              clear hy ha4 hB9 hB8
              go_wp2
              go_quiet (fail)
              go_wp2
              go_ret
              exact ⟨by simp, pw_below_drewN hB10 _⟩
theorem more_row (w : World) (n : Int) (hn : (Lit.int .i64 n).wf = true) (me : Int) (_hme : (Lit.int .i64 me).wf = true) (floor : Int) (_hfl : (Lit.int .i64 floor).wf = true) (A : Option Addr) (c : Nat) (l : List S27) (hA : Kd.C k27 w A l.length l)
    (h1 : l.length ≤ c) (_h2 : c * 24 ≤ 140737488351232) (_h3 : ∀ p ∈ l, Opn.Wf27 p) (x : S27) (_hx : Opn.Wf27 x) (pl : Int) (hpl : (Lit.int .i64 pl).wf = true) :
    Calls Try.prog 7 #[.int .i64 n, .int .i64 me, .int .i64 floor, .slice A l.length c, .agg #[.int .i64 x.f0, .int .i64 x.f1, .bool x.f2], .int .i64 pl] w fun e w' => e = .returned (.bool true) ∧ Below w.heap.size w w' := more_walk n me floor A c l x pl w hn hA h1 hpl
end Go.Proofs.Ytkgamiojoekegaa.Ch
