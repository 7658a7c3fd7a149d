/- The law ChooseTurned: its walk. Conditions: none. -/
import Derived.Test.YtobnehbcnlhchaaTrL
import Derived.Test.YtobnehbcnlhchaaTrBS
import Derived.Test.YtobnehbcnlhchaaTrCM
import Derived.Test.YtobnehbcnlhchaaTrO
import Derived.Deep.RegionLaw
import Derived.Deep.DeepCutAuto
namespace Go.Proofs.Ytobnehbcnlhchaa.Tu
open Go.RowKit Go.Proofs.YtobnehbcnlhchaaW.PrintWords Go.Proofs.Ytobnehbcnlhchaa.PChooseTurned
set_option linter.unusedVariables false
set_option linter.unusedSimpArgs false
/-- append(v, ys...) of witnesses in a region that draws its order -/
theorem stepW {w : World} {ops : Array Oper} {o : Oper} {a : Act} {K : Act → World → Prop} {Q : Exit → Act → World → Prop} {E : Prop} (hgd : o.guard = none) (s x : Operand)
    (ho : o.op = .call { callee := .builtin .append, args := #[s, x], argTypes := #[57, 57] }) (base : Nat)
    (v : Value) (l : List S66) (hs : a.eval s = v) (hown : Ch.Own w base v l) (ad : Addr) (m c : Nat) (ys : List S66) (hx : a.eval x = .slice (some ad) m c) (hl : ys.length = m)
    (hnews : ∀ j u, (Ch.cells66 ys)[j]? = some u → w.cell? (ad.add j) = some u) (hbytes : (l.length + ys.length) * 24 ≤ 140737488355328) (hbase : base ≤ w.heap.size)
    (h : ∀ v' w', Ch.Own w' base v' (l ++ ys) → w.grownBy w' v.ownBlock → K (a.put o.dst v') w') : if Region.wanted o (yielded ops a.tmps) = true then Oper.wp Try.prog o a w K Q else E := by
  have hw : Region.wanted o (yielded ops a.tmps) = true := by simp [Region.wanted, hgd]
  rw [if_pos hw]
  obtain ⟨i, hi, hz, h1, h2⟩ := Ch.info66'
  subst hl
  refine wp_append_own w s x 57 ho base 66 i _ 3 24 Try.underlying57 hi hz h1 h2 rfl (by omega) v l.length (Ch.cells66 l) hs hown ad ys.length c (Ch.cells66 ys) hx (Ch.cells66_length ys) hnews (Ch.cells66_one ys) (by unfold maxLen; omega) hbytes hbase ?_
  intro v' w' ho' hg _
  exact h v' w' (by unfold Ch.Own; rw [List.length_append, Ch.cells66_append]; exact ho') hg
theorem sizeW (W : World) : (sizeOf 66).run Try.prog W = .ok 3 W := by
  obtain ⟨i, hi, _, h1, _⟩ := Ch.info66'
  simp [sizeOf, typeInfo, hi, h1]
theorem sliceW_to (a : Addr) (n c i : Nat) (h : i ≤ c) (W : World) : (Instr.slice 57 (.slice (some a) n c) none (some (.int .i64 (i : Int))) none).run Try.prog W = .ok (.slice (some a) i c) W := by
  have hel : Try.prog.elem 57 = 66 := by kernel_rfl
  have hu : Try.prog.underlying 57 = some (.slice (Try.prog.elem 57)) := by rw [hel]; exact Try.underlying57
  rw [run_slice_h W 57 (some a) n c hu .i64 (i : Int) (by omega) (by omega), hel, sizeW]
  simp [sliced, Result.andThen, Addr.add]
theorem sliceW_from (a : Addr) (n c i : Nat) (h : i ≤ n) (hc : ¬ c = i) (W : World) : (Instr.slice 57 (.slice (some a) n c) (some (.int .i64 (i : Int))) none none).run Try.prog W = .ok (.slice (some (a.add (i * 3))) (n - i) (c - i)) W := by
  have hel : Try.prog.elem 57 = 66 := by kernel_rfl
  have hu : Try.prog.underlying 57 = some (.slice (Try.prog.elem 57)) := by rw [hel]; exact Try.underlying57
  rw [run_slice_l W 57 (some a) n c hu .i64 (i : Int) (by omega) (by omega), hel, sizeW]
  simp [sliced, Result.andThen, hc]
theorem cellsW_take {w : World} {ad : Addr} {n : Nat} {l : List S66} (h : Kd.C k66 w (some ad) n l) (k : Nat) : ∀ j u, (Ch.cells66 (l.take k))[j]? = some u → w.cell? (ad.add j) = some u := fun j u hj => by
  refine Ch.C_cells h j u ?_
  rw [← List.take_append_drop k l, Ch.cells66_append, List.getElem?_append_left (List.getElem?_eq_some_iff.1 hj).1]
  exact hj
theorem cellsW_drop {w : World} {ad : Addr} {n : Nat} {l : List S66} (h : Kd.C k66 w (some ad) n l) (k : Nat) (hk : k ≤ l.length) : ∀ j u, (Ch.cells66 (l.drop k))[j]? = some u → w.cell? ((ad.add (k * 3)).add j) = some u := fun j u hj => by
  rw [Deep.add_add]
  refine Ch.C_cells h _ u ?_
  rw [← List.take_append_drop k l, Ch.cells66_append, List.getElem?_append_right (by rw [Ch.cells66_length, List.length_take, Nat.min_eq_left hk]; omega), Ch.cells66_length, List.length_take, Nat.min_eq_left hk, Nat.add_sub_cancel_left]
  exact hj
theorem adW {w : World} {A : Option Addr} {n : Nat} {l : List S66} (h : Kd.C k66 w A n l) (h0 : 0 < n) : ∃ ad, A = some ad := by
  obtain ⟨ad, e, _⟩ := at_T66 h 0 (by omega) (by omega)
  exact ⟨ad, e⟩
theorem best_small (n : Int) (l : List S62) : 0 ≤ (Be.bestS n l).1 ∧ (Be.bestS n l).1 ≤ 7 := by
  cases hs : Be.sized n l.length with
  | false => rw [Be.best_120 n l hs]; exact ⟨Int.le_refl _, by show (0 : Int) ≤ 7; omega⟩
  | true =>
    have hl : 1 ≤ l.length ∧ l.length ≤ 7 := by simp [Be.sized] at hs; omega
    cases ha : Be.allFresh n [] l with
    | false => rw [Be.best_121 n l hs ha]; exact ⟨Int.le_refl _, by show (0 : Int) ≤ 7; omega⟩
    | true =>
      rw [Be.best_ok n l hs ha]
      have := bestAt_lt l (by omega)
      exact ⟨by show (0 : Int) ≤ (Be.bestAt l : Int); omega, by show (Be.bestAt l : Int) ≤ 7; omega⟩
set_option maxHeartbeats 8000000 in
set_option maxRecDepth 100000 in
theorem turned_walk (n me floor : Int) (A : Option Addr) (c : Nat) (l : List S62) (B : Option Addr) (cb : Nat) (ws : List S66) (Ap : Option Addr) (cp : Nat) (ps : List Int) (w : World)
    (hA : Kd.C k62 w A l.length l) (hc : l.length ≤ c) (hcb : c * 32 ≤ 140737488351232) (hB : Kd.C k66 w B ws.length ws) (hb : ws.length ≤ cb) (hbb : cb * 24 ≤ 140737488351232)
    (hP : Kd.C (Kd.int .i64) w Ap ps.length ps) (hpl : ps.length ≤ 140737488351232) (hwp : ∀ p ∈ ps, (Lit.int .i64 p).wf = true) :
    Calls Try.prog 5 #[.int .i64 n, .int .i64 me, .int .i64 floor, .slice A l.length c, .slice B ws.length cb, .slice Ap ps.length cp] w fun e w' => e = .returned (.bool true) ∧ Below w.heap.size w w' := by
  have HA := Lib.hid hA
  have HB := Lib.hid hB
  have HP := Lib.hid hP
  have HW := Lib.hid hwp
  have HBE := Lib.hid (Be.best_any n A c l w hA)
  have hsm := best_small n l
  obtain ⟨bp, hbp⟩ : ∃ bp, Be.bestS n l = bp := ⟨_, rfl⟩
  have HBP := Lib.hid hbp
  rw [hbp] at HBE hsm
  obtain ⟨pa, pc, pe⟩ := bp
  unfold Be.tup at HBE
  dsimp only at HBE hsm
  obtain ⟨hs0, hs7⟩ := hsm
  have hnn : A = none → l.length = 0 := fun e => by
    rcases Nat.eq_zero_or_pos l.length with h | h
    · exact h
    · obtain ⟨ad, e', _⟩ := at_T62 hA 0 (by omega) (by omega)
      rw [e] at e'; cases e'
  clear hA hB hP hwp hbp
  by_cases hl : 0 < l.length ∧ l.length ≤ 7
  case' pos =>
    obtain ⟨h1, h2⟩ := hl
    have d1 : decide ((0 : Int) < (l.length : Int)) = true := decide_eq_true (by omega)
    have d2 : decide ((l.length : Int) ≤ 7) = true := decide_eq_true (by omega)
    obtain ⟨ad, rfl, _⟩ := at_T62 HA.out 0 (by omega) (by omega)
    go_enter Try.func5, Try.ntmps5
    go_wp2_with fail
    refine HBE.out.mono ?_
    rintro e w1 ⟨rfl, hB1⟩
    have HB1 := Lib.hid hB1
    have HSO := Lib.hid (Be.some17 _ c l l.length Ap cp ps w1 (Kd.C_below HA.out HB1.out) h2 h1 hc (Nat.le_refl _) (Kd.C_below HP.out HB1.out) (by omega) HW.out)
    clear HBE hB1
    go_wp2_with fail
    refine HSO.out.mono ?_
    rintro e w2 ⟨⟨v, O, R, rfl, hO, hOl, hpm⟩, hB2⟩
    have HB2 := Lib.hid (HB1.out.trans (hB2.mono HB1.out.size))
    have hR : R = [] := by
      have := hpm.length_eq
      rw [List.length_append] at this
      exact List.eq_nil_of_length_eq_zero (by omega)
    subst hR
    rw [List.append_nil] at hpm
    obtain ⟨A2, c2, rfl, hC2, hc2⟩ := hO.reads (by omega)
    have HC2 := Lib.hid hC2
    have HBE2 := Lib.hid (Be.best_any n A2 c2 O w2 hC2)
    have hperm := best_perm n hpm.symm h1
    obtain ⟨qp, hqp⟩ : ∃ qp, Be.bestS n O = qp := ⟨_, rfl⟩
    rw [hqp] at HBE2
    rw [hqp, HBP.out] at hperm
    obtain ⟨qa, qc, qe⟩ := qp
    unfold Be.tup at HBE2
    dsimp only at hperm HBE2
    obtain ⟨e1, e2, e3⟩ := hperm
    have HE3 := Lib.hid e3
    replace e1 := e1.symm
    replace e2 := e2.symm
    subst e1 e2
    have HOL := Lib.hid hOl
    rw [hOl] at HBE2 ⊢
    clear hO hpm hC2 hqp e3 HSO hOl hB2
    go_wp2_with fail
    refine HBE2.out.mono ?_
    rintro e w3 ⟨rfl, hB3⟩
    have HB3 := Lib.hid (HB2.out.trans (hB3.mono HB2.out.size))
    have HC3 := Lib.hid (Kd.C_below HC2.out hB3)
    clear hB3 HBE2 HC2 HB1 HB2
    have hsplit : (∃ F1 F2 : Int, (pe == 0) = true ∧ decide (pa < 0) = false ∧ decide ((l.length : Int) ≤ pa) = false ∧ decide (qa < 0) = false ∧ decide ((l.length : Int) ≤ qa) = false ∧ 0 ≤ pa ∧ pa < (l.length : Int) ∧ 0 ≤ qa ∧ qa < (l.length : Int) ∧ ∃ ad2, A2 = some ad2 ∧ w3.cell? ⟨(ad.add (pa.toNat * 4)).block, (ad.add (pa.toNat * 4)).off + 1, none⟩ = some (.int .i64 F1) ∧ w3.cell? ⟨(ad.add (pa.toNat * 4)).block, (ad.add (pa.toNat * 4)).off + 2, none⟩ = some (.int .i64 F2) ∧ w3.cell? ⟨(ad2.add (qa.toNat * 4)).block, (ad2.add (qa.toNat * 4)).off + 1, none⟩ = some (.int .i64 F1) ∧ w3.cell? ⟨(ad2.add (qa.toNat * 4)).block, (ad2.add (qa.toNat * 4)).off + 2, none⟩ = some (.int .i64 F2)) ∨ (pe == 0) = false := by
      by_cases hpe : pe = 0
      · obtain ⟨i, j, hi, hj, hia, hja, hf1, hf2⟩ := HE3.out hpe
        rw [HOL.out] at hj
        obtain ⟨ad1, ha1, g0, g1, g2, g3⟩ := at_T62 (Kd.C_below HA.out HB3.out) pa (by omega) (by omega)
        cases ha1
        obtain ⟨ad2, ha2, k0, k1, k2, k3⟩ := at_T62 HC3.out qa (by omega) (by rw [HOL.out]; omega)
        rw [hia, hf1, ← hja] at g1
        rw [hia, hf2, ← hja] at g2
        rw [← hia] at g1 g2
        exact .inl ⟨_, _, by simp [hpe], decide_eq_false (by omega), decide_eq_false (by omega), decide_eq_false (by omega), decide_eq_false (by omega), by omega, by omega, by omega, by omega, ad2, ha2, g1, g2, k1, k2⟩
      · exact .inr (by simpa using hpe)
    clear HE3 HC3 HOL
    go_upto_region 7 with (fail)
    rcases hsplit with ⟨F1, F2, b0, f1, f2, f3, f4, x0, x1, x2, x3, ad2, rfl, g1, g2, k1, k2⟩ | b0
    case' inl =>
      go_quiet (fail)
      clear f1 f2 f3 f4 x0 x1 x2 x3 g1 g2 k1 k2 b0
    case' inr =>
      go_quiet (fail)
      clear b0
    all_goals
      generalize hw5 : w3.drewN nq = w5
      have HB5 := Lib.hid (show Below w.heap.size w w5 by rw [← hw5]; exact pw_below_drewN HB3.out _)
      clear hw5 HB3 d1 d2
  case' neg =>
    have hl3 : (decide ((0 : Int) < (l.length : Int)) = false ∧ decide (0 < l.length) = false) ∨ ((decide ((0 : Int) < (l.length : Int)) = true ∧ decide (0 < l.length) = true) ∧ decide ((l.length : Int) ≤ 7) = false) := by
      simp only [decide_eq_true_eq, decide_eq_false_iff_not]
      omega
    clear hl
    go_enter Try.func5, Try.ntmps5
    go_wp2_with fail
    refine HBE.out.mono ?_
    rintro e w5 ⟨rfl, hB1⟩
    have HB5 := Lib.hid hB1
    clear HBE hB1
    go_upto_region 2 with (fail)
    rcases hl3 with ⟨d1, d1'⟩ | ⟨⟨d1, d1'⟩, d2⟩
    case' inl =>
      go_upto_region 9 with (fail)
      clear d1 d1'
    case' inr =>
      go_upto_region 9 with (fail)
      clear d1 d1' d2
  all_goals
    have HRA := Lib.hid (Ch.ready_any n me floor B cb ws w5 (Kd.C_below HB.out HB5.out))
    by_cases hw : ws.length = 0 ∨ 7 < ws.length
    · rw [ready_none n me floor ws hw] at HRA
      unfold Ch.tup at HRA
      have hw3 : ((ws.length : Int) == 0) = true ∨ (((ws.length : Int) == 0) = false ∧ decide ((7 : Int) < (ws.length : Int)) = true) := by
        simp only [beq_iff_eq, beq_eq_false_iff_ne, decide_eq_true_eq]
        omega
      clear hw
      go_wp2_with fail
      refine HRA.out.mono ?_
      rintro e w6 ⟨rfl, hB6⟩
      have HB6 := Lib.hid (HB5.out.trans (hB6.mono HB5.out.size))
      clear hB6 HRA HB5
      rcases hw3 with d3 | ⟨d3, d4⟩
      all_goals
        go_wp2
        go_ret
        exact ⟨rfl, HB6.out⟩
    · have hw1 : 0 < ws.length := by omega
      have hw7 : ws.length ≤ 7 := by omega
      have d3 : ((ws.length : Int) == 0) = false := by rw [beq_eq_false_iff_ne]; omega
      have d4 : decide ((7 : Int) < (ws.length : Int)) = false := decide_eq_false (by omega)
      obtain ⟨bd, rfl⟩ := adW HB.out hw1
      obtain ⟨rp, hrp⟩ : ∃ rp, Ch.readyS n me floor ws = rp := ⟨_, rfl⟩
      have HRP := Lib.hid hrp
      rw [hrp] at HRA
      obtain ⟨ra, rok, re⟩ := rp
      unfold Ch.tup at HRA
      dsimp only at HRA
      clear hrp hw
      have hwk : IntKind.i64.wrap (pa + (ps.length : Int)) = pa + (ps.length : Int) := IntWalk.i64_in _ (by omega)
      go_wp2_with fail
      refine HRA.out.mono ?_
      rintro e w6 ⟨rfl, hB6⟩
      have HB6 := Lib.hid (HB5.out.trans (hB6.mono HB5.out.size))
      have HAM := Lib.hid (Be.among15 (pa + (ps.length : Int)) ws.length w6 hw1 (by omega) (WalkArith.wf_i64 (by omega)))
      clear hB6 HRA HB5
      go_wp2_with fail
      refine HAM.out.mono ?_
      rintro e w7 ⟨⟨k, hk, rfl⟩, hB7⟩
      have HB7 := Lib.hid (HB6.out.trans (hB7.mono HB6.out.size))
      have HC7 := Lib.hid (Kd.C_below HB.out HB7.out)
      have hs1 := sliceW_from bd ws.length cb k (by omega) (by omega)
      have hs2 := sliceW_to bd ws.length cb k (by omega)
      have HT := Lib.hid (show (ws.take k).length = k by rw [List.length_take]; omega)
      have HD := Lib.hid (show (ws.drop k).length = ws.length - k by rw [List.length_drop])
      have HCD := Lib.hid (fun W (h : Below w7.heap.size w7 W) => cellsW_drop (Kd.C_below HC7.out h) k (by omega))
      have HCT := Lib.hid (fun W (h : Below w7.heap.size w7 W) => cellsW_take (Kd.C_below HC7.out h) k)
      clear hB7 HAM HB6
      go_upto_region 13 with (fail)
      go_region_law (first | (refine stepW rfl (.const (.slice none 0 0)) (.tmp 142) rfl w7.heap.size (.slice none 0 0) [] (by go_simp) (Ch.Own.nil _ _) (bd.add (k * 3)) (ws.length - k) (cb - k) (ws.drop k) (by go_simp) HD.out (HCD.out _ (by first | exact Below.refl _ _ | exact (Below.refl _ _).drew)) (by rw [HD.out]; simp; omega) (Nat.le_refl _) ?_; intro v8 w8 ho8 hg8) | (refine stepW rfl (.tmp 143) (.tmp 146) rfl w7.heap.size v8 (ws.drop k) (by go_simp) ho8 bd k cb (ws.take k) (by go_simp) HT.out (HCT.out w8 ((Below.refl _ _).grown (Be.undrew hg8) (Nat.le_refl _) (by simp [Value.ownBlock]))) (by rw [HT.out, HD.out]; omega) hg8.size ?_; intro v9 w9 ho9 hg9))
      all_goals
        have hb8 : Below w7.heap.size w7 w8 := (Below.refl _ _).grown (Be.undrew hg8) (Nat.le_refl _) (by simp [Value.ownBlock])
        have hb9 : Below w7.heap.size w7 w9 := hb8.grown hg9 hb8.size (fun b hb => own_base ho8 b hb)
        have HB9 := Lib.hid (HB7.out.trans (hb9.mono HB7.out.size))
        have hpm : ws.Perm (ws.drop k ++ ws.take k) := by
          have := List.perm_append_comm (l₁ := ws.take k) (l₂ := ws.drop k)
          rwa [List.take_append_drop] at this
        have HRR := Lib.hid (ready_perm n me floor hpm hw1)
        obtain ⟨T, hT⟩ : ∃ T, ws.drop k ++ ws.take k = T := ⟨_, rfl⟩
        rw [hT] at HRR
        replace ho9 : Ch.Own w9 w7.heap.size v9 T := by rw [← hT]; exact ho9
        have hTl : T.length = ws.length := by rw [← hT]; exact hpm.length_eq.symm
        obtain ⟨A9, c9, rfl, hC9, _⟩ := ho9.reads (by omega)
        have HC9 := Lib.hid hC9
        have HR9 := Lib.hid (Ch.ready_any n me floor A9 c9 T w9 hC9)
        obtain ⟨sp, hsp⟩ : ∃ sp, Ch.readyS n me floor T = sp := ⟨_, rfl⟩
        have HSP := Lib.hid hsp
        rw [hsp] at HR9
        rw [hsp, HRP.out] at HRR
        obtain ⟨ya, yok, ye⟩ := sp
        unfold Ch.tup at HR9
        have hrr := HRR.out
        dsimp only at HR9 hrr
        obtain ⟨e1, e2, e3⟩ := hrr
        have HE3 := Lib.hid e3
        have HTL := Lib.hid hTl
        have HPT := Lib.hid hT
        replace e1 := e1.symm
        replace e2 := e2.symm
        subst e1 e2
        rw [hTl] at HR9 ⊢
        clear ho8 hg8 ho9 hg9 hb8 hb9 hpm hT hC9 hsp HRR e3 hTl hs1 hs2 HT HD HCD HCT HC7 HB7
        go_wp2_with fail
        refine HR9.out.mono ?_
        rintro e w10 ⟨rfl, hB10⟩
        have HB10 := Lib.hid (HB9.out.trans (hB10.mono HB9.out.size))
        have HC10 := Lib.hid (Kd.C_below HC9.out hB10)
        clear hB10 HR9 HC9 HB9
        cases rok
        · have z1 : ra = 0 := by have := Ch.ready_not n me floor ws (by rw [HRP.out]); rwa [HRP.out] at this
          have z2 : ya = 0 := by have := Ch.ready_not n me floor T (by rw [HSP.out]); rwa [HSP.out] at this
          subst z1 z2
          clear HRP HSP HE3 HC10
          go_wp2
          go_ret
          exact ⟨rfl, HB10.out⟩
        · obtain ⟨i, j, hi, hj, rfl, rfl, hij⟩ := HE3.out rfl
          rw [HTL.out] at hj
          obtain ⟨ad1, ha1, g0, g1, g2⟩ := at_T66 (Kd.C_below HB.out HB10.out) (i : Int) (by omega) (by omega)
          cases ha1
          obtain ⟨ad2, ha2, k0, k1, k2⟩ := at_T66 HC10.out (j : Int) (by omega) (by rw [HTL.out]; omega)
          subst ha2
          rw [hij] at g0 g1 g2
          simp only [Int.toNat_natCast] at g0 g1 g2 k0 k1 k2
          obtain ⟨y, hy⟩ : ∃ y, rd_T66 T (j : Int) = y := ⟨_, rfl⟩
          rw [hy] at g0 g1 g2 k0 k1 k2
          have f1 : decide ((0 : Int) ≤ (i : Int)) = true := decide_eq_true (by omega)
          have f2 : decide ((i : Int) < (ws.length : Int)) = true := decide_eq_true (by omega)
          have f3 : decide ((0 : Int) ≤ (j : Int)) = true := decide_eq_true (by omega)
          have f4 : decide ((j : Int) < (ws.length : Int)) = true := decide_eq_true (by omega)
          have f5 : (i : Int) < (ws.length : Int) := by omega
          have f6 : (j : Int) < (ws.length : Int) := by omega
          clear HRP HSP HE3 HC10 hij hy
          go_wp2
          go_quiet (fail)
          go_wp2
          go_ret
          exact ⟨by simp, pw_below_drewN HB10.out _⟩
end Go.Proofs.Ytobnehbcnlhchaa.Tu
