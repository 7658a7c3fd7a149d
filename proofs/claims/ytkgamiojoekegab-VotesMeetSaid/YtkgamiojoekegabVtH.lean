/- The law VotesReach: its walk. Conditions: none. -/
import Derived.Test.YtkgamiojoekegabVtG
import Derived.Test.YtkgamiojoekegabVtP
import Derived.OwnWalk
import Derived.Deep.DeepCutAuto
import Derived.StillTailTactics
import Derived.BigQuiet
import Derived.Deep.QuietTactic
namespace Go.Proofs.Ytkgamiojoekegab.Vt
open Go.RowKit Go.Proofs.YtkgamiojoekegabW.PrintWords Go.Proofs.Ytkgamiojoekegab.PVotesConfigs
set_option linter.unusedVariables false

/-- block g holds just these numbers -/
def IB (w : World) (g : Nat) (l : List Int) : Prop := w.heap[g]? = some (.cells (l.map (Value.int .i64)).toArray 3 (0, 0))
theorem IB.lt {w : World} {g : Nat} {l : List Int} (h : IB w g l) : g < w.heap.size := Blk.lt h
theorem IB.keep {w w' : World} {g : Nat} {l : List Int} (h : IB w g l) (hb : w'.heap[g]? = w.heap[g]?) : IB w' g l := hb.trans h
theorem IB.cell {w : World} {g : Nat} {l : List Int} (h : IB w g l) (k : Nat) (hk : k < l.length) : w.cell? ⟨g, k, none⟩ = some (.int .i64 (rd l (k : Int))) := by
  rw [Blk.cell h, rd_atI l k hk]
  simp [hk]
theorem IB.set {w : World} {g : Nat} {l : List Int} (h : IB w g l) (k : Nat) (v : Int) : IB (w.setCell ⟨g, k, none⟩ (.int .i64 v)) g (l.set k v) :=
  (Blk.set h k (.int .i64 v)).trans (by simp [List.map_set])
theorem info3' : ∃ i, Try.prog.info? 3 = some i ∧ i.zero = some (.int .i64 0) ∧ i.size = 1 ∧ i.bytes = 8 := info_parts (by kernel_rfl)
set_option maxRecDepth 100000 in
theorem makeI {w : World} {ops : Array Oper} {rest : List Oper} {o : Oper} {a : Act} {Q : Exit → Act → World → Prop} (hgd : o.guard = none) (l c : Operand) (ho : o.op = Op.makeSlice 28 l c)
    (L : Int) (n : Nat) (hn : n = 3 ∨ n = 5 ∨ n = 7) (hl : a.eval l = .int .i64 L) (hc : a.eval c = .int .i64 L) (hL : L = (n : Int))
    (h : ∀ w', IB w' w.heap.size (List.replicate n 0) → Below w.heap.size w w' → wpList Try.prog ops Q rest (a.put o.dst (.slice (some ⟨w.heap.size, 0, none⟩) n n)) w') : wpList Try.prog ops Q (o :: rest) a w := by
  obtain ⟨i, hi, hz, h1, h2⟩ := info3'
  refine wpList_make_full w hgd l c 28 ho w.heap.size 3 i _ 1 Try.underlying28 hi hz h1 .i64 .i64 L L n hl hc hL hL (by rw [h2]; omega) (by unfold maxLen; omega) (Nat.le_refl _) ?_
  intro w' hown hg
  refine h w' ?_ ((Below.refl _ _).grown hg (Nat.le_refl _) (by simp))
  have hown2 := hown.2
  generalize hgs : w.heap.size = gs at hown2 ⊢
  rcases hown2 with ⟨h0, _⟩ | ⟨g', cap', cur, e, _, hh, _, _, hsz, htk⟩
  · cases h0
  · injection e with e1 e2 e3
    injection e1 with e1
    injection e1 with e1
    subst e1 e3
    show _ = _
    rw [hh]
    congr 2
    apply Array.toList_inj.1
    rw [List.take_of_length_le (by rw [Array.length_toList, hsz]; exact Nat.le_refl _)] at htk
    rw [htk]
    rcases hn with rfl | rfl | rfl <;> kernel_rfl

theorem mj3 : votes_Majority.f 3 = some 2 := by kernel_rfl
theorem mj5 : votes_Majority.f 5 = some 3 := by kernel_rfl
theorem mj7 : votes_Majority.f 7 = some 4 := by kernel_rfl
theorem maj_q (q : Nat) (h : q < 3) : votes_Majority.f (3 + 2 * (q : Int)) = some ((q : Int) + 2) := by
  rcases (by omega : q = 0 ∨ q = 1 ∨ q = 2) with rfl | rfl | rfl
  · exact mj3
  · exact mj5
  · exact mj7
theorem pickQ (c n : Int) (w : World) (k : Nat) (hc : (Lit.int .i64 c).wf = true) (h : 0 < n) (hn : n ≤ 9223372036854775807) : Calls Try.prog 39 #[.int .i64 c, .int .i64 n] (w.drewN k) fun e w'' => e = .returned (.int .i64 (pickS c n)) ∧ ∃ m, w'' = w.drewN m :=
  (pick39 c n (w.drewN k) hc h hn).mono fun e w' h => ⟨h.1, k, h.2⟩

set_option maxHeartbeats 2000000 in
set_option maxRecDepth 100000 in
theorem reach_walk (size who more : Int) (hs : (Lit.int .i64 size).wf = true) (hw : (Lit.int .i64 who).wf = true) (hm : (Lit.int .i64 more).wf = true) (A : Option Addr) (c : Nat) (raw : List Int) (w : World)
    (hA : Kd.C (Kd.int .i64) w A raw.length raw) (hrl : raw.length ≤ 9223372036854775807) (hwf : ∀ p ∈ raw, (Lit.int .i64 p).wf = true) :
    Calls Try.prog 9 #[.int .i64 size, .slice A raw.length c, .int .i64 who, .int .i64 more] w fun e w' => e = .returned (.bool true) ∧ Below w.heap.size w w' := by
  have HA := Lib.hid hA
  have HWF := Lib.hid hwf
  have HW := Lib.hid hw
  have HMo := Lib.hid hm
  have HS := Lib.hid hs
  clear hA hwf hw hm hs
  go_enter Try.func9, Try.ntmps9
  go_wp2_with fail
  refine (shown28 w).mono ?_
  rintro e w1 ⟨rfl, hB1⟩
  go_wp2_with fail
  refine (pick39 size 3 w1 HS.out (by omega) (by omega)).mono ?_
  rintro e w2 ⟨rfl, rfl⟩
  have hq0 := pickS_ge size 3 (by omega)
  have hq1 := pickS_lt size 3 (by omega)
  obtain ⟨q, hq⟩ : ∃ q : Nat, pickS size 3 = (q : Int) := ⟨(pickS size 3).toNat, by omega⟩
  rw [hq] at hq0 hq1 ⊢
  clear hq
  have hw1 : IntKind.i64.wrap (2 * (q : Int)) = 2 * (q : Int) := IntWalk.i64_in _ (by omega)
  have hw2 : IntKind.i64.wrap (3 + 2 * (q : Int)) = 3 + 2 * (q : Int) := IntWalk.i64_in _ (by omega)
  go_wp2_with (at_make; refine makeI rfl (.tmp 26) (.tmp 26) rfl (3 + 2 * (q : Int)) (3 + 2 * q) (by omega) rfl rfl (by omega) ?_; intro w3 hI3 hb3)
  obtain ⟨g, hg⟩ : ∃ g, w2.heap.size = g := ⟨_, rfl⟩
  have hwg := hB1.size
  have hB3 := hB1.trans (hb3.mono hB1.size)
  rw [hg] at hI3 hwg ⊢
  have hI := Lib.hid hI3
  clear hg hI3 hb3 hB1
  go_wp2
  go_loopw [12] (fun i wr => ∃ (k : Nat) (l : List Int), k ≤ 3 + 2 * q ∧ i = .int .i64 k ∧ Hid (IB wr g l) ∧ Hid (l.length = 3 + 2 * q) ∧ Hid (∀ x ∈ l, (Lit.int .i64 x).wf = true) ∧ Below w.heap.size w wr) (fun i _ => 3 + 2 * q - (intOf i).toNat)
  case atStart => exact ⟨0, _, Nat.zero_le _, rfl, hI, by show _ = _; simp, fun x hx => by rw [List.mem_replicate] at hx; rw [hx.2]; rfl, hB3⟩
  case round =>
    clear hB3 hI
    obtain ⟨k, l, hk, rfl, HI, HL, HF, hB⟩ := hrel
    by_cases hgo : k < 3 + 2 * q ∧ k < raw.length
    · obtain ⟨hlt, hr⟩ := hgo
      have d1 : decide ((k : Int) < 3 + 2 * (q : Int)) = true := decide_eq_true (by omega)
      have d2 : decide (k < raw.length) = true := decide_eq_true hr
      obtain ⟨ad, ha, g0⟩ := Kd.at_int (Kd.C_below HA.out hB) (k : Int) (by omega) (by omega)
      subst ha
      simp only [Int.toNat_natCast] at g0
      have hvw := HWF.out (rd raw (k : Int)) (by rw [rd_atI raw k hr]; exact List.getElem_mem _)
      obtain ⟨v, hv⟩ : ∃ v, rd raw (k : Int) = v := ⟨_, rfl⟩
      rw [hv] at g0 hvw
      clear hv
      have hkl : k < l.length := by rw [HL.out]; exact hlt
      have hc := IB.cell HI.out k hkl
      have hfz : wr.frozen? ⟨g, k, none⟩ = false := Blk.frozen HI.out k
      have HI2 := Lib.hid (IB.set HI.out k v)
      have HF2 : Hid (∀ x ∈ l.set k v, (Lit.int .i64 x).wf = true) := fun x hx => by
        rcases List.mem_or_eq_of_mem_set hx with h | h
        · exact HF.out x h
        · rw [h]; exact hvw
      have HL2 : Hid ((l.set k v).length = 3 + 2 * q) := by show _ = _; rw [List.length_set]; exact HL.out
      have hB2 := hB.setCell (p := ⟨g, k, none⟩) hwg (.int .i64 v)
      have hkq : (k : Int) < 3 + 2 * (q : Int) := by omega
      clear hvw hkl
      go_wp2
      go_roundw
      case rel => exact ⟨k + 1, l.set k v, by omega, by go_num, HI2, HL2, HF2, hB2⟩
      case measure => simp [intOf]; omega
    · have hx : (¬ k < 3 + 2 * q) ∨ (k < 3 + 2 * q ∧ ¬ k < raw.length) := by omega
      have hmj : votes_Majority.f (3 + 2 * (q : Int)) = some ((q : Int) + 2) := maj_q q (by omega)
      obtain ⟨kp, hpt⟩ := point_f (3 + 2 * (q : Int)) ((q : Int) + 2) l (by omega) (by rw [HL.out]; omega) hmj
      have HPT := Lib.hid (votes_Point.calls kp _ (some ⟨g, 0, none⟩) (3 + 2 * q) l _ _ wr (C_ints l (by rw [HL.out]; omega) HI.out) (by rw [HL.out]; exact Nat.le_refl _) hpt)
      rw [HL.out] at HPT
      have HMJ := Lib.hid hmj
      have HP1 := Lib.hid (point_reached ((q : Int) + 2) l (by omega) (by rw [HL.out]; omega))
      have HP2 := Lib.hid (point_above ((q : Int) + 2) l (by omega))
      obtain ⟨P, hP⟩ : ∃ P, pointS ((q : Int) + 2) l = P := ⟨_, rfl⟩
      have HP := Lib.hid hP
      rw [hP] at HPT HP1 HP2
      clear hP hpt hmj hgo
      rcases hx with hx | ⟨hx, hx2⟩
      · have d1 : decide ((k : Int) < 3 + 2 * (q : Int)) = false := decide_eq_false (by omega)
        go_wp2_with fail
        refine HPT.out.mono ?_
        rintro e w5 ⟨rfl, hd5⟩
        have hb5 := hd5.below
        have hB5 := hB.trans (hb5.mono hB.size)
        have HI5 := Lib.hid (HI.out.keep (hb5.block g HI.out.lt))
        clear hd5 hb5 hB HI HPT hx d1
        go_wp2
        go_loopw [15, 16, 17] (fun a b i wx => ∃ k : Nat, k ≤ 3 + 2 * q ∧ i = .int .i64 k ∧ a = .int .i64 (((l.take k).countP (fun x => decide (P ≤ x)) : Nat) : Int) ∧ b = .int .i64 (((l.take k).countP (fun x => decide (P < x)) : Nat) : Int) ∧ Hid (IB wx g l) ∧ Below w.heap.size w wx) (fun _ _ i _ => 3 + 2 * q - (intOf i).toNat)
        case atStart => exact ⟨0, Nat.zero_le _, rfl, rfl, rfl, HI5, hB5⟩
        case round =>
          clear HI5 hB5
          obtain ⟨k, hk, rfl, rfl, rfl, HI5, hB5⟩ := hrel
          by_cases hlt : k < 3 + 2 * q
          · have hkl : k < l.length := by rw [HL.out]; exact hlt
            have hc := IB.cell HI5.out k hkl
            have hkq : (k : Int) < 3 + 2 * (q : Int) := by omega
            have HT1 := Lib.hid (show (l.take (k + 1)).countP (fun x => decide (P ≤ x)) = (l.take k).countP (fun x => decide (P ≤ x)) + if P ≤ rd l (k : Int) then 1 else 0 by rw [List.take_succ_eq_append_getElem hkl, List.countP_append, ← rd_atI l k hkl]; simp [List.countP_cons])
            have HT2 := Lib.hid (show (l.take (k + 1)).countP (fun x => decide (P < x)) = (l.take k).countP (fun x => decide (P < x)) + if P < rd l (k : Int) then 1 else 0 by rw [List.take_succ_eq_append_getElem hkl, List.countP_append, ← rd_atI l k hkl]; simp [List.countP_cons])
            have hn1 : (l.take k).countP (fun x => decide (P ≤ x)) ≤ k := Nat.le_trans List.countP_le_length (by simp; omega)
            have hn2 : (l.take k).countP (fun x => decide (P < x)) ≤ k := Nat.le_trans List.countP_le_length (by simp; omega)
            obtain ⟨x, hx⟩ : ∃ x, rd l (k : Int) = x := ⟨_, rfl⟩
            rw [hx] at hc HT1 HT2
            obtain ⟨ca, hca⟩ : ∃ ca, (l.take k).countP (fun x => decide (P ≤ x)) = ca := ⟨_, rfl⟩
            obtain ⟨cb, hcb⟩ : ∃ cb, (l.take k).countP (fun x => decide (P < x)) = cb := ⟨_, rfl⟩
            rw [hca] at HT1 hn1 ⊢
            rw [hcb] at HT2 hn2 ⊢
            clear hx hca hcb hkl
            have hwa : IntKind.i64.wrap ((ca : Int) + 1) = (ca : Int) + 1 := IntWalk.i64_in _ (by omega)
            have hwb : IntKind.i64.wrap ((cb : Int) + 1) = (cb : Int) + 1 := IntWalk.i64_in _ (by omega)
            by_cases c1 : P ≤ x
            · by_cases c2 : P < x
              · have e1 : decide (P ≤ x) = true := decide_eq_true c1
                have e2 : decide (P < x) = true := decide_eq_true c2
                have HT1' := Lib.hid (HT1.out.trans (by rw [if_pos c1]))
                have HT2' := Lib.hid (HT2.out.trans (by rw [if_pos c2]))
                clear HT1 HT2 c1 c2
                go_wp2
                go_roundw
                case rel => exact ⟨k + 1, by omega, by go_num, by rw [HT1'.out]; simp, by rw [HT2'.out]; simp, HI5, hB5⟩
                case measure => simp [intOf]; omega
              · have e1 : decide (P ≤ x) = true := decide_eq_true c1
                have e2 : decide (P < x) = false := decide_eq_false c2
                have HT1' := Lib.hid (HT1.out.trans (by rw [if_pos c1]))
                have HT2' := Lib.hid (HT2.out.trans (by rw [if_neg c2]))
                clear HT1 HT2 c1 c2
                go_wp2
                go_roundw
                case rel => exact ⟨k + 1, by omega, by go_num, by rw [HT1'.out]; simp, by rw [HT2'.out]; simp, HI5, hB5⟩
                case measure => simp [intOf]; omega
            · have c2 : ¬ P < x := by omega
              have e1 : decide (P ≤ x) = false := decide_eq_false c1
              have e2 : decide (P < x) = false := decide_eq_false c2
              have HT1' := Lib.hid (HT1.out.trans (by rw [if_neg c1]))
              have HT2' := Lib.hid (HT2.out.trans (by rw [if_neg c2]))
              clear HT1 HT2 c1 c2
              go_wp2
              go_roundw
              case rel => exact ⟨k + 1, by omega, by go_num, by rw [HT1'.out]; simp, by rw [HT2'.out]; simp, HI5, hB5⟩
              case measure => simp [intOf]; omega
          · have hkq : k = l.length := by rw [HL.out]; omega
            have d3 : decide ((k : Int) < 3 + 2 * (q : Int)) = false := decide_eq_false (by omega)
            rw [hkq, List.take_length]
            rw [hkq] at d3
            have HA1 : Hid ((q : Int) + 2 ≤ ((l.countP (fun x => decide (P ≤ x)) : Nat) : Int)) := HP1.out
            obtain ⟨ca, hca⟩ : ∃ ca, l.countP (fun x => decide (P ≤ x)) = ca := ⟨_, rfl⟩
            obtain ⟨cb, hcb⟩ : ∃ cb, l.countP (fun x => decide (P < x)) = cb := ⟨_, rfl⟩
            rw [hca] at HA1 ⊢
            rw [hcb] at HP2 ⊢
            clear hca hcb HP1 hkq hlt hk
            go_wp2_with fail
            refine (pick39 who _ wr HW.out (by omega) (by omega)).mono ?_
            rintro e w6 ⟨rfl, rfl⟩
            have hp0 := pickS_ge who (3 + 2 * (q : Int)) (by omega)
            have hp1 := pickS_lt who (3 + 2 * (q : Int)) (by omega)
            obtain ⟨j, hj⟩ : ∃ j : Nat, pickS who (3 + 2 * (q : Int)) = (j : Int) := ⟨(pickS who (3 + 2 * (q : Int))).toNat, by omega⟩
            rw [hj] at hp0 hp1 ⊢
            clear hj
            have hjl : j < l.length := by rw [HL.out]; omega
            have hc := IB.cell HI5.out j hjl
            have hxw := HF.out (rd l (j : Int)) (by rw [rd_atI l j hjl]; exact List.getElem_mem _)
            have hm0 := pickS_ge more 1000 (by omega)
            have hm1 := pickS_lt more 1000 (by omega)
            have hxb : -9223372036854775808 ≤ rd l (j : Int) ∧ rd l (j : Int) ≤ 9223372036854775807 := by simpa [Lit.wf, IntKind.min, IntKind.max, IntKind.signed, IntKind.bits] using hxw
            obtain ⟨x, hx⟩ : ∃ x, rd l (j : Int) = x := ⟨_, rfl⟩
            have HX := Lib.hid hx
            rw [hx] at hc hxb
            obtain ⟨m, hm⟩ : ∃ m, pickS more 1000 = m := ⟨_, rfl⟩
            have HPQ := Lib.hid (fun W k => pickQ more 1000 W k HMo.out (by omega) (by omega))
            have HPK := Lib.hid (fun W => pick39 more 1000 W HMo.out (by omega) (by omega))
            rw [hm] at hm0 hm1 HPQ HPK
            clear hx hm hxw
            go_wp2
            go_quiet ((go_at_call 39; exact HPQ.out _ _))
            obtain ⟨mx, hmx⟩ : ∃ mx : Int, (if x < 0 then 0 else x) = mx := ⟨_, rfl⟩
            have hmxb : 0 ≤ mx ∧ mx ≤ 9223372036854775807 ∧ x ≤ mx := by rw [← hmx]; split <;> omega
            have hwm : IntKind.i64.wrap (9223372036854775807 - mx) = 9223372036854775807 - mx := IntWalk.i64_in _ (by omega)
            rw [hmx]
            clear hmx
            obtain ⟨w7, hw7⟩ : ∃ w7, w6.drewN nq = w7 := ⟨_, rfl⟩
            have hB7 : Below w.heap.size w w7 := by rw [← hw7]; exact pw_below_drewN hB5 _
            have HI7 : Hid (IB w7 g l) := by rw [← hw7]; exact HI5.out
            have hc7 : w7.cell? ⟨g, j, none⟩ = some (.int .i64 x) := by rw [← hw7]; exact hc
            rw [hw7]
            clear hw7 hB5 HI5 hc
            by_cases hle : m ≤ 9223372036854775807 - mx
            · have d5 : decide (m ≤ 9223372036854775807 - mx) = true := decide_eq_true hle
              have hwadd : IntKind.i64.wrap (x + m) = x + m := IntWalk.i64_in _ (by omega)
              have hfz7 : w7.frozen? ⟨g, j, none⟩ = false := Blk.frozen HI7.out j
              go_wp2
              go_still_tail 10, (by kernel_rfl)
              still_call (HPK.out _)
              repeat still_step
              refine wpStill_nil ?_
              change wpList _ _ _ _ _ w7.drew
              obtain ⟨w8, hw8⟩ : ∃ w8, w7.drew = w8 := ⟨_, rfl⟩
              have hc8 : w8.cell? ⟨g, j, none⟩ = some (.int .i64 x) := by rw [← hw8]; exact hc7
              have hf8 : w8.frozen? ⟨g, j, none⟩ = false := by rw [← hw8]; exact hfz7
              have HII : Hid (IB (w8.setCell ⟨g, j, none⟩ (.int .i64 (x + m))) g (l.set j (x + m))) := by rw [← hw8]; exact IB.set HI7.out j (x + m)
              have HBB : Below w.heap.size w (w8.setCell ⟨g, j, none⟩ (.int .i64 (x + m))) := by rw [← hw8]; exact hB7.drew.setCell (p := ⟨g, j, none⟩) hwg _
              have HLL : Hid ((l.set j (x + m)).length = 3 + 2 * q) := by show _ = _; rw [List.length_set]; exact HL.out
              have HGE : Hid (P ≤ pointS ((q : Int) + 2) (l.set j (x + m))) := by
                show _ ≤ _
                rw [← HP.out]
                exact point_rise _ l j (x + m) hjl (by rw [← rd_atI l j hjl, HX.out]; omega) (by omega) (by rw [HL.out]; omega)
              rw [hw8]
              clear hw8 hc7 hfz7 hB7 HI7 d5
              obtain ⟨kp2, hpt2⟩ := point_f (3 + 2 * (q : Int)) ((q : Int) + 2) (l.set j (x + m)) (by omega) (by rw [HLL.out]; omega) HMJ.out
              have HPT2 := Lib.hid (votes_Point.calls kp2 _ (some ⟨g, 0, none⟩) (3 + 2 * q) (l.set j (x + m)) _ _ (w8.setCell ⟨g, j, none⟩ (.int .i64 (x + m))) (C_ints (l.set j (x + m)) (by rw [HLL.out]; omega) HII.out) (by rw [HLL.out]; exact Nat.le_refl _) hpt2)
              rw [HLL.out] at HPT2
              obtain ⟨P', hP'⟩ : ∃ P', pointS ((q : Int) + 2) (l.set j (x + m)) = P' := ⟨_, rfl⟩
              rw [hP'] at HPT2 HGE
              have e1 : decide ((q : Int) + 2 ≤ (ca : Int)) = true := decide_eq_true HA1.out
              have e2 : decide ((cb : Int) < (q : Int) + 2) = true := decide_eq_true HP2.out
              have e3 : decide (P ≤ P') = true := decide_eq_true HGE.out
              clear hpt2 hP'
              go_wp2_with fail
              refine HPT2.out.mono ?_
              rintro e w9 ⟨rfl, hd9⟩
              have hB9 := HBB.trans (hd9.below.mono HBB.size)
              clear hd9 HBB
              go_wp2_with fail
              refine (votes_Majority.calls _ _ _ HMJ.out).mono ?_
              rintro e wa ⟨rfl, hda⟩
              have hBa := hB9.trans (hda.below.mono hB9.size)
              clear hda hB9
              go_wp2_with fail
              refine (votes_Majority.calls _ _ _ HMJ.out).mono ?_
              rintro e wb ⟨rfl, hdb⟩
              have hBb := hBa.trans (hdb.below.mono hBa.size)
              clear hdb hBa
              go_wp2
              go_ret
              exact ⟨rfl, hBb⟩
            · have d5 : decide (m ≤ 9223372036854775807 - mx) = false := decide_eq_false hle
              have HII := HI7
              have HBB := hB7
              have HLL := HL
              have HGE : Hid (P ≤ pointS ((q : Int) + 2) l) := by show _ ≤ _; rw [HP.out]; exact Int.le_refl _
              clear HI7 hB7 hc7
              obtain ⟨kp2, hpt2⟩ := point_f (3 + 2 * (q : Int)) ((q : Int) + 2) l (by omega) (by rw [HLL.out]; omega) HMJ.out
              have HPT2 := Lib.hid (votes_Point.calls kp2 _ (some ⟨g, 0, none⟩) (3 + 2 * q) l _ _ w7 (C_ints l (by rw [HLL.out]; omega) HII.out) (by rw [HLL.out]; exact Nat.le_refl _) hpt2)
              rw [HLL.out] at HPT2
              obtain ⟨P', hP'⟩ : ∃ P', pointS ((q : Int) + 2) l = P' := ⟨_, rfl⟩
              rw [hP'] at HPT2 HGE
              have e1 : decide ((q : Int) + 2 ≤ (ca : Int)) = true := decide_eq_true HA1.out
              have e2 : decide ((cb : Int) < (q : Int) + 2) = true := decide_eq_true HP2.out
              have e3 : decide (P ≤ P') = true := decide_eq_true HGE.out
              clear hpt2 hP'
              go_wp2_with fail
              refine HPT2.out.mono ?_
              rintro e w9 ⟨rfl, hd9⟩
              have hB9 := HBB.trans (hd9.below.mono HBB.size)
              clear hd9 HBB
              go_wp2_with fail
              refine (votes_Majority.calls _ _ _ HMJ.out).mono ?_
              rintro e wa ⟨rfl, hda⟩
              have hBa := hB9.trans (hda.below.mono hB9.size)
              clear hda hB9
              go_wp2_with fail
              refine (votes_Majority.calls _ _ _ HMJ.out).mono ?_
              rintro e wb ⟨rfl, hdb⟩
              have hBb := hBa.trans (hdb.below.mono hBa.size)
              clear hdb hBa
              go_wp2
              go_ret
              exact ⟨rfl, hBb⟩
      · have d1 : decide ((k : Int) < 3 + 2 * (q : Int)) = true := decide_eq_true (by omega)
        have d2 : decide (k < raw.length) = false := decide_eq_false hx2
        go_wp2_with fail
        refine HPT.out.mono ?_
        rintro e w5 ⟨rfl, hd5⟩
        have hb5 := hd5.below
        have hB5 := hB.trans (hb5.mono hB.size)
        have HI5 := Lib.hid (HI.out.keep (hb5.block g HI.out.lt))
        clear hd5 hb5 hB HI HPT hx d1
        go_wp2
        go_loopw [15, 16, 17] (fun a b i wx => ∃ k : Nat, k ≤ 3 + 2 * q ∧ i = .int .i64 k ∧ a = .int .i64 (((l.take k).countP (fun x => decide (P ≤ x)) : Nat) : Int) ∧ b = .int .i64 (((l.take k).countP (fun x => decide (P < x)) : Nat) : Int) ∧ Hid (IB wx g l) ∧ Below w.heap.size w wx) (fun _ _ i _ => 3 + 2 * q - (intOf i).toNat)
        case atStart => exact ⟨0, Nat.zero_le _, rfl, rfl, rfl, HI5, hB5⟩
        case round =>
          clear HI5 hB5
          obtain ⟨k, hk, rfl, rfl, rfl, HI5, hB5⟩ := hrel
          by_cases hlt : k < 3 + 2 * q
          · have hkl : k < l.length := by rw [HL.out]; exact hlt
            have hc := IB.cell HI5.out k hkl
            have hkq : (k : Int) < 3 + 2 * (q : Int) := by omega
            have HT1 := Lib.hid (show (l.take (k + 1)).countP (fun x => decide (P ≤ x)) = (l.take k).countP (fun x => decide (P ≤ x)) + if P ≤ rd l (k : Int) then 1 else 0 by rw [List.take_succ_eq_append_getElem hkl, List.countP_append, ← rd_atI l k hkl]; simp [List.countP_cons])
            have HT2 := Lib.hid (show (l.take (k + 1)).countP (fun x => decide (P < x)) = (l.take k).countP (fun x => decide (P < x)) + if P < rd l (k : Int) then 1 else 0 by rw [List.take_succ_eq_append_getElem hkl, List.countP_append, ← rd_atI l k hkl]; simp [List.countP_cons])
            have hn1 : (l.take k).countP (fun x => decide (P ≤ x)) ≤ k := Nat.le_trans List.countP_le_length (by simp; omega)
            have hn2 : (l.take k).countP (fun x => decide (P < x)) ≤ k := Nat.le_trans List.countP_le_length (by simp; omega)
            obtain ⟨x, hx⟩ : ∃ x, rd l (k : Int) = x := ⟨_, rfl⟩
            rw [hx] at hc HT1 HT2
            obtain ⟨ca, hca⟩ : ∃ ca, (l.take k).countP (fun x => decide (P ≤ x)) = ca := ⟨_, rfl⟩
            obtain ⟨cb, hcb⟩ : ∃ cb, (l.take k).countP (fun x => decide (P < x)) = cb := ⟨_, rfl⟩
            rw [hca] at HT1 hn1 ⊢
            rw [hcb] at HT2 hn2 ⊢
            clear hx hca hcb hkl
            have hwa : IntKind.i64.wrap ((ca : Int) + 1) = (ca : Int) + 1 := IntWalk.i64_in _ (by omega)
            have hwb : IntKind.i64.wrap ((cb : Int) + 1) = (cb : Int) + 1 := IntWalk.i64_in _ (by omega)
            by_cases c1 : P ≤ x
            · by_cases c2 : P < x
              · have e1 : decide (P ≤ x) = true := decide_eq_true c1
                have e2 : decide (P < x) = true := decide_eq_true c2
                have HT1' := Lib.hid (HT1.out.trans (by rw [if_pos c1]))
                have HT2' := Lib.hid (HT2.out.trans (by rw [if_pos c2]))
                clear HT1 HT2 c1 c2
                go_wp2
                go_roundw
                case rel => exact ⟨k + 1, by omega, by go_num, by rw [HT1'.out]; simp, by rw [HT2'.out]; simp, HI5, hB5⟩
                case measure => simp [intOf]; omega
              · have e1 : decide (P ≤ x) = true := decide_eq_true c1
                have e2 : decide (P < x) = false := decide_eq_false c2
                have HT1' := Lib.hid (HT1.out.trans (by rw [if_pos c1]))
                have HT2' := Lib.hid (HT2.out.trans (by rw [if_neg c2]))
                clear HT1 HT2 c1 c2
                go_wp2
                go_roundw
                case rel => exact ⟨k + 1, by omega, by go_num, by rw [HT1'.out]; simp, by rw [HT2'.out]; simp, HI5, hB5⟩
                case measure => simp [intOf]; omega
            · have c2 : ¬ P < x := by omega
              have e1 : decide (P ≤ x) = false := decide_eq_false c1
              have e2 : decide (P < x) = false := decide_eq_false c2
              have HT1' := Lib.hid (HT1.out.trans (by rw [if_neg c1]))
              have HT2' := Lib.hid (HT2.out.trans (by rw [if_neg c2]))
              clear HT1 HT2 c1 c2
              go_wp2
              go_roundw
              case rel => exact ⟨k + 1, by omega, by go_num, by rw [HT1'.out]; simp, by rw [HT2'.out]; simp, HI5, hB5⟩
              case measure => simp [intOf]; omega
          · have hkq : k = l.length := by rw [HL.out]; omega
            have d3 : decide ((k : Int) < 3 + 2 * (q : Int)) = false := decide_eq_false (by omega)
            rw [hkq, List.take_length]
            rw [hkq] at d3
            have HA1 : Hid ((q : Int) + 2 ≤ ((l.countP (fun x => decide (P ≤ x)) : Nat) : Int)) := HP1.out
            obtain ⟨ca, hca⟩ : ∃ ca, l.countP (fun x => decide (P ≤ x)) = ca := ⟨_, rfl⟩
            obtain ⟨cb, hcb⟩ : ∃ cb, l.countP (fun x => decide (P < x)) = cb := ⟨_, rfl⟩
            rw [hca] at HA1 ⊢
            rw [hcb] at HP2 ⊢
            clear hca hcb HP1 hkq hlt hk
            go_wp2_with fail
            refine (pick39 who _ wr HW.out (by omega) (by omega)).mono ?_
            rintro e w6 ⟨rfl, rfl⟩
            have hp0 := pickS_ge who (3 + 2 * (q : Int)) (by omega)
            have hp1 := pickS_lt who (3 + 2 * (q : Int)) (by omega)
            obtain ⟨j, hj⟩ : ∃ j : Nat, pickS who (3 + 2 * (q : Int)) = (j : Int) := ⟨(pickS who (3 + 2 * (q : Int))).toNat, by omega⟩
            rw [hj] at hp0 hp1 ⊢
            clear hj
            have hjl : j < l.length := by rw [HL.out]; omega
            have hc := IB.cell HI5.out j hjl
            have hxw := HF.out (rd l (j : Int)) (by rw [rd_atI l j hjl]; exact List.getElem_mem _)
            have hm0 := pickS_ge more 1000 (by omega)
            have hm1 := pickS_lt more 1000 (by omega)
            have hxb : -9223372036854775808 ≤ rd l (j : Int) ∧ rd l (j : Int) ≤ 9223372036854775807 := by simpa [Lit.wf, IntKind.min, IntKind.max, IntKind.signed, IntKind.bits] using hxw
            obtain ⟨x, hx⟩ : ∃ x, rd l (j : Int) = x := ⟨_, rfl⟩
            have HX := Lib.hid hx
            rw [hx] at hc hxb
            obtain ⟨m, hm⟩ : ∃ m, pickS more 1000 = m := ⟨_, rfl⟩
            have HPQ := Lib.hid (fun W k => pickQ more 1000 W k HMo.out (by omega) (by omega))
            have HPK := Lib.hid (fun W => pick39 more 1000 W HMo.out (by omega) (by omega))
            rw [hm] at hm0 hm1 HPQ HPK
            clear hx hm hxw
            go_wp2
            go_quiet ((go_at_call 39; exact HPQ.out _ _))
            obtain ⟨mx, hmx⟩ : ∃ mx : Int, (if x < 0 then 0 else x) = mx := ⟨_, rfl⟩
            have hmxb : 0 ≤ mx ∧ mx ≤ 9223372036854775807 ∧ x ≤ mx := by rw [← hmx]; split <;> omega
            have hwm : IntKind.i64.wrap (9223372036854775807 - mx) = 9223372036854775807 - mx := IntWalk.i64_in _ (by omega)
            rw [hmx]
            clear hmx
            obtain ⟨w7, hw7⟩ : ∃ w7, w6.drewN nq = w7 := ⟨_, rfl⟩
            have hB7 : Below w.heap.size w w7 := by rw [← hw7]; exact pw_below_drewN hB5 _
            have HI7 : Hid (IB w7 g l) := by rw [← hw7]; exact HI5.out
            have hc7 : w7.cell? ⟨g, j, none⟩ = some (.int .i64 x) := by rw [← hw7]; exact hc
            rw [hw7]
            clear hw7 hB5 HI5 hc
            by_cases hle : m ≤ 9223372036854775807 - mx
            · have d5 : decide (m ≤ 9223372036854775807 - mx) = true := decide_eq_true hle
              have hwadd : IntKind.i64.wrap (x + m) = x + m := IntWalk.i64_in _ (by omega)
              have hfz7 : w7.frozen? ⟨g, j, none⟩ = false := Blk.frozen HI7.out j
              go_wp2
              go_still_tail 10, (by kernel_rfl)
              still_call (HPK.out _)
              repeat still_step
              refine wpStill_nil ?_
              change wpList _ _ _ _ _ w7.drew
              obtain ⟨w8, hw8⟩ : ∃ w8, w7.drew = w8 := ⟨_, rfl⟩
              have hc8 : w8.cell? ⟨g, j, none⟩ = some (.int .i64 x) := by rw [← hw8]; exact hc7
              have hf8 : w8.frozen? ⟨g, j, none⟩ = false := by rw [← hw8]; exact hfz7
              have HII : Hid (IB (w8.setCell ⟨g, j, none⟩ (.int .i64 (x + m))) g (l.set j (x + m))) := by rw [← hw8]; exact IB.set HI7.out j (x + m)
              have HBB : Below w.heap.size w (w8.setCell ⟨g, j, none⟩ (.int .i64 (x + m))) := by rw [← hw8]; exact hB7.drew.setCell (p := ⟨g, j, none⟩) hwg _
              have HLL : Hid ((l.set j (x + m)).length = 3 + 2 * q) := by show _ = _; rw [List.length_set]; exact HL.out
              have HGE : Hid (P ≤ pointS ((q : Int) + 2) (l.set j (x + m))) := by
                show _ ≤ _
                rw [← HP.out]
                exact point_rise _ l j (x + m) hjl (by rw [← rd_atI l j hjl, HX.out]; omega) (by omega) (by rw [HL.out]; omega)
              rw [hw8]
              clear hw8 hc7 hfz7 hB7 HI7 d5
              obtain ⟨kp2, hpt2⟩ := point_f (3 + 2 * (q : Int)) ((q : Int) + 2) (l.set j (x + m)) (by omega) (by rw [HLL.out]; omega) HMJ.out
              have HPT2 := Lib.hid (votes_Point.calls kp2 _ (some ⟨g, 0, none⟩) (3 + 2 * q) (l.set j (x + m)) _ _ (w8.setCell ⟨g, j, none⟩ (.int .i64 (x + m))) (C_ints (l.set j (x + m)) (by rw [HLL.out]; omega) HII.out) (by rw [HLL.out]; exact Nat.le_refl _) hpt2)
              rw [HLL.out] at HPT2
              obtain ⟨P', hP'⟩ : ∃ P', pointS ((q : Int) + 2) (l.set j (x + m)) = P' := ⟨_, rfl⟩
              rw [hP'] at HPT2 HGE
              have e1 : decide ((q : Int) + 2 ≤ (ca : Int)) = true := decide_eq_true HA1.out
              have e2 : decide ((cb : Int) < (q : Int) + 2) = true := decide_eq_true HP2.out
              have e3 : decide (P ≤ P') = true := decide_eq_true HGE.out
              clear hpt2 hP'
              go_wp2_with fail
              refine HPT2.out.mono ?_
              rintro e w9 ⟨rfl, hd9⟩
              have hB9 := HBB.trans (hd9.below.mono HBB.size)
              clear hd9 HBB
              go_wp2_with fail
              refine (votes_Majority.calls _ _ _ HMJ.out).mono ?_
              rintro e wa ⟨rfl, hda⟩
              have hBa := hB9.trans (hda.below.mono hB9.size)
              clear hda hB9
              go_wp2_with fail
              refine (votes_Majority.calls _ _ _ HMJ.out).mono ?_
              rintro e wb ⟨rfl, hdb⟩
              have hBb := hBa.trans (hdb.below.mono hBa.size)
              clear hdb hBa
              go_wp2
              go_ret
              exact ⟨rfl, hBb⟩
            · have d5 : decide (m ≤ 9223372036854775807 - mx) = false := decide_eq_false hle
              have HII := HI7
              have HBB := hB7
              have HLL := HL
              have HGE : Hid (P ≤ pointS ((q : Int) + 2) l) := by show _ ≤ _; rw [HP.out]; exact Int.le_refl _
              clear HI7 hB7 hc7
              obtain ⟨kp2, hpt2⟩ := point_f (3 + 2 * (q : Int)) ((q : Int) + 2) l (by omega) (by rw [HLL.out]; omega) HMJ.out
              have HPT2 := Lib.hid (votes_Point.calls kp2 _ (some ⟨g, 0, none⟩) (3 + 2 * q) l _ _ w7 (C_ints l (by rw [HLL.out]; omega) HII.out) (by rw [HLL.out]; exact Nat.le_refl _) hpt2)
              rw [HLL.out] at HPT2
              obtain ⟨P', hP'⟩ : ∃ P', pointS ((q : Int) + 2) l = P' := ⟨_, rfl⟩
              rw [hP'] at HPT2 HGE
              have e1 : decide ((q : Int) + 2 ≤ (ca : Int)) = true := decide_eq_true HA1.out
              have e2 : decide ((cb : Int) < (q : Int) + 2) = true := decide_eq_true HP2.out
              have e3 : decide (P ≤ P') = true := decide_eq_true HGE.out
              clear hpt2 hP'
              go_wp2_with fail
              refine HPT2.out.mono ?_
              rintro e w9 ⟨rfl, hd9⟩
              have hB9 := HBB.trans (hd9.below.mono HBB.size)
              clear hd9 HBB
              go_wp2_with fail
              refine (votes_Majority.calls _ _ _ HMJ.out).mono ?_
              rintro e wa ⟨rfl, hda⟩
              have hBa := hB9.trans (hda.below.mono hB9.size)
              clear hda hB9
              go_wp2_with fail
              refine (votes_Majority.calls _ _ _ HMJ.out).mono ?_
              rintro e wb ⟨rfl, hdb⟩
              have hBb := hBa.trans (hdb.below.mono hBa.size)
              clear hdb hBa
              go_wp2
              go_ret
              exact ⟨rfl, hBb⟩
end Go.Proofs.Ytkgamiojoekegab.Vt
