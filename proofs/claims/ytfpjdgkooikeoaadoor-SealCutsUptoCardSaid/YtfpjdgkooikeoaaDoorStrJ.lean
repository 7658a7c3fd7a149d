/- The law SealCuts: its walk. Conditions: the bytes and cuts that came in are at most 2^20. -/
import Derived.Test.YtfpjdgkooikeoaaDoorStrI
import Derived.Deep.DeepCutAuto
namespace Go.Proofs.YtfpjdgkooikeoaaDoor.Sl
open Go.RowKit Go.Proofs.YtfpjdgkooikeoaaDoor.Mem Go.Proofs.YtfpjdgkooikeoaaDoor.Opn
set_option linter.unusedVariables false
set_option linter.unusedSimpArgs false
/-- whole numbers that came in -/
def IR (w : World) (B : Option Addr) (cs : List Int) : Prop := ∀ (j : Nat) (x : Int), cs[j]? = some x → ∃ a, B = some a ∧ w.cell? (a.add j) = some (.int .i64 x)
theorem CI.got {w wr : World} {sa sb : Nat} {da db : List (List UInt8)} {ha hb : List UInt8} {la lb : Nat} {v : Value} (h : CI w wr sa sb da db ha hb la lb [] none v) (v' : Value) (hr : Row wr 22 1 none v' 0 []) : CI w wr sa sb da db ha hb la lb [] none v' :=
  ⟨h.st, hr, h.gd, h.rgn, h.an, h.bn, h.ne, h.fr⟩
theorem CI.both {w w1 w2 w3 : World} {sa sb : Nat} (hF1 : Fr No w w1) (ea : w1.heap.size = sa) (hF2 : Fr No w1 w2) (eb : w2.heap.size = sb) (h2 : Str w2 sa none [] [] 0) (hlt : sa < w2.heap.size) (hF3 : Fr No w2 w3) (h3 : Str w3 sb none [] [] 0) : CI w w3 sa sb [] [] [] [] 0 0 [] none (.slice none 0 0) := by
  have s1 := hF1.size
  have s2 := hF2.size
  exact ⟨⟨none, [], none, [], h2.no hF3, rfl, h3, rfl, (fun k hk => by cases hk), (fun k hk => by cases hk), (fun k hk => by cases hk), (fun k hk => by cases hk)⟩, Row.nil _ _ _, (fun z hz => by cases hz), (fun k hk => by cases hk), by omega, by omega, by omega, (hF1.then_ hF2).then_ hF3⟩
set_option maxHeartbeats 8000000 in
set_option maxRecDepth 100000 in
theorem cuts_walk (A B : Option Addr) (n ca nc cb : Nat) (b : List UInt8) (cs : List Int) (early : Bool) (w : World) (hb : b.length = n) (hc : cs.length = nc) (hn : n ≤ 1048576) (hnc : nc ≤ 1048576) (hna : n ≤ ca) (hca : ca ≤ 1048576) (hA0 : A = none → ca = 0) (hA : BR Any w A b) (hB : IR w B cs) (hT : Tab w) :
    Calls Tryd.prog 9 #[.slice A n ca, .slice B nc cb, .bool early] w fun e w' => e = .returned (.bool true) ∧ Fr No w w' := by
  have HA := Lib.hid hA
  have HB := Lib.hid hB
  have HT := Lib.hid hT
  have HLb := Lib.hid hb
  have HC := Lib.hid hc
  have HA0 := Lib.hid hA0
  have HSH := Lib.hid (shown w hT)
  clear hA hB hT hb hc hA0
  go_enter Tryd.func9, Tryd.ntmps9
  go_wp2_with fail
  refine HSH.out.mono ?_
  rintro e w1 ⟨rfl, hF1⟩
  have HF1 := Lib.hid hF1
  have HN1 := Lib.hid (sNew2 w1 (HT.out.no hF1))
  clear hF1 HSH
  go_wp2_with fail
  refine HN1.out.mono ?_
  rintro e w2 ⟨rfl, hF2, hS2, hlt2⟩
  have HF2 := Lib.hid hF2
  have HS2 := Lib.hid hS2
  have HN2 := Lib.hid (sNew2 w2 ((HT.out.no HF1.out).no hF2))
  clear hF2 hS2 HN1
  go_wp2_with fail
  refine HN2.out.mono ?_
  rintro e w3 ⟨rfl, hF3, hS3, hlt3⟩
  obtain ⟨sa, hsa⟩ : ∃ sa, w1.heap.size = sa := ⟨_, rfl⟩
  obtain ⟨sb, hsb⟩ : ∃ sb, w2.heap.size = sb := ⟨_, rfl⟩
  rw [hsa] at HS2 hlt2
  rw [hsb] at hS3 hlt3
  have hc3 := CI.both HF1.out hsa HF2.out hsb HS2.out hlt2 hF3 hS3
  have HFW := Lib.hid (hc3.swap.feed A n ca b HLb.out hn (by simp) (by simp) (by omega) (HA.out.fr hc3.fr (fun _ _ _ q => q)) HT.out)
  rw [hsa, hsb]
  clear hc3 hF3 hS3 hlt2 hlt3 HF1 HF2 HS2 HN2 hsa hsb
  go_wp2_with fail
  refine HFW.out.mono ?_
  rintro e w4 ⟨rfl, F, L, R, hsc, hc4⟩
  rw [List.nil_append] at hsc hc4
  rw [Nat.zero_add] at hc4
  have HSC0 := Lib.hid hsc
  have HC5 := Lib.hid ((hc4.swap.no ((Fr.refl No w4).alloc (.cells #[] 22 (0, 0)))).got (.slice (some ⟨w4.heap.size, 0, none⟩) 0 0) (Row.no _ _ _ _))
  clear hsc hc4 HFW
  go_wp2
  obtain ⟨X0, hX0⟩ : ∃ X0, w4.heap.size = X0 := ⟨_, rfl⟩
  rw [hX0] at HC5 ⊢
  clear hX0
  generalize w4.alloc (Obj.cells #[] 22) = w5 at *
  go_loopw [9, 10, 11] (fun v9 v10 v11 wr => ∃ (i at_ N cg X : Nat) (gs : List HL) (rbg : Option Nat) (dp : List (List UInt8)) (r : List UInt8) (l : Nat), v11 = .int .i64 (i : Int) ∧ v10 = .int .i64 (at_ : Int) ∧ v9 = .slice (some ⟨X, 0, none⟩) N cg ∧ i ≤ nc ∧ at_ ≤ n ∧ Hid (gs.length = N) ∧ Hid (Scan (b.take at_) (gs.map HL.d ++ dp) l r) ∧ Hid (CI w wr sa sb F dp R r L l gs rbg (.slice (some ⟨X, 0, none⟩) N cg))) (fun _ _ v11 _ => nc - (intOf v11).toNat)
  case atStart => exact ⟨0, 0, 0, 0, X0, [], none, [], [], 0, rfl, rfl, rfl, Nat.zero_le _, Nat.zero_le _, rfl, Scan.nil, HC5⟩
  case round =>
    clear HC5
    obtain ⟨i, at_, N, cg, X, gs, rbg, dp, r, l, rfl, rfl, rfl, hi, hat, HGL, HSC, HCI⟩ := hrel
    have hw : IntKind.i64.wrap ((i : Int) + 1) = (i : Int) + 1 := IntWalk.i64_in _ (by omega)
    have hcnt := HSC.out.count
    have htl := took_len (gs.map HL.d ++ dp)
    have hlb : (b.take at_).length = at_ := by rw [List.length_take, HLb.out]; omega
    rw [hlb] at hcnt
    rw [List.length_append, List.length_map, HGL.out] at htl
    have HHELD := Lib.hid HSC.out.held
    by_cases hlt : i < nc ∧ at_ < n
    · obtain ⟨h1, h2⟩ := hlt
      have d1 : decide ((i : Int) < (nc : Int)) = true := decide_eq_true (by omega)
      have d1' : decide (i < nc) = true := decide_eq_true h1
      have d2 : decide ((at_ : Int) < (n : Int)) = true := decide_eq_true (by omega)
      have d2' : decide (at_ < n) = true := decide_eq_true h2
      have hii : (i : Int) < (nc : Int) := by omega
      obtain ⟨x, hx⟩ : ∃ x, cs[i]? = some x := ⟨_, List.getElem?_eq_getElem (by rw [HC.out]; exact h1)⟩
      obtain ⟨aB, rfl, x0⟩ := HB.out i x hx
      have x1 := cell_fr HCI.out.fr x0
      obtain ⟨ad, rfl, b0⟩ := HA.out.at_ 0 (by rw [HLb.out]; omega)
      rw [show ad.add 0 = ad from rfl] at b0
      obtain ⟨k0, o0, rfl⟩ := spot b0
      have hws : IntKind.i64.wrap ((n : Int) - (at_ : Int)) = (n : Int) - (at_ : Int) := IntWalk.i64_in _ (by omega)
      clear x0 b0 hx
      go_upto_region 14 with (fail)
      clear x1
      go_cut [64] (fun t wx => t = .bool (decide (x < 0 ∨ (n : Int) - (at_ : Int) < x)) ∧ wr = wx)
      case first =>
        by_cases h0 : x < 0
        · have f1 : decide (x < 0) = true := decide_eq_true h0
          have HK := Lib.hid (show decide (x < 0 ∨ (n : Int) - (at_ : Int) < x) = true from decide_eq_true (.inl h0))
          clear h0
          go_wp2
          go_meet
          exact ⟨congrArg Value.bool HK.out.symm, rfl⟩
        · have f1 : decide (x < 0) = false := decide_eq_false h0
          have HK := Lib.hid (show decide (x < 0 ∨ (n : Int) - (at_ : Int) < x) = decide ((n : Int) - (at_ : Int) < x) by simp [h0])
          clear h0
          go_wp2
          go_meet
          exact ⟨congrArg Value.bool HK.out.symm, rfl⟩
      case rest =>
        obtain ⟨rfl, rfl⟩ := hcut
        go_upto_if 64 with (fail)
        go_cut [12] (fun v wx => (∃ m : Nat, v = .int .i64 (m : Int) ∧ at_ + m ≤ n) ∧ wr = wx)
        case first =>
          by_cases hz : x < 0 ∨ (n : Int) - (at_ : Int) < x
          · rw [decide_eq_true hz]
            clear hz
            go_wp2
            go_meet
            exact ⟨⟨0, rfl, by omega⟩, rfl⟩
          · rw [decide_eq_false hz]
            obtain ⟨m, rfl⟩ := Int.eq_ofNat_of_zero_le (show 0 ≤ x by omega)
            have hm : at_ + m ≤ n := by omega
            clear hz
            go_wp2
            go_meet
            exact ⟨⟨m, rfl, hm⟩, rfl⟩
        case rest =>
          obtain ⟨⟨m, rfl, hm⟩, rfl⟩ := hcut
          have hwm : IntKind.i64.wrap ((at_ : Int) + (m : Int)) = (at_ : Int) + (m : Int) := IntWalk.i64_in _ (by omega)
          have hk1c : at_ + m ≤ ca := by omega
          have hk1ci : (at_ : Int) + (m : Int) ≤ (ca : Int) := by omega
          have hkk1 : (at_ : Int) ≤ (at_ : Int) + (m : Int) := by omega
          have hkz : (0 : Int) ≤ (at_ : Int) + (m : Int) := by omega
          have htn : ((at_ : Int) + (m : Int)).toNat = at_ + m := by omega
          have hkyc : ¬ (ca = at_) := by omega
          have hsub : at_ + m - at_ = m := by omega
          have HFE := Lib.hid (HCI.out.feed (some ⟨k0, o0 + at_, none⟩) m (ca - at_) ((b.drop at_).take m) (by rw [List.length_take, List.length_drop, HLb.out]; omega) (by omega) HHELD.out (by omega) (by omega) (BR.sub (HA.out.fr HCI.out.fr (fun _ _ _ q => q)) at_ m) HT.out)
          have HSP := Lib.hid (fun (f : List (List UInt8)) (l' : Nat) (r' : List UInt8) (h : Scan (r ++ (b.drop at_).take m) f l' r') => show Scan (b.take (at_ + m)) (gs.map HL.d ++ (dp ++ f)) (l + l') r' by
            have := HSC.out.app _ h
            rwa [take_drop_add, List.append_assoc] at this)
          clear HSC HCI
          go_wp2_with fail
          refine HFE.out.mono ?_
          rintro e w6 ⟨rfl, f, l', r', hsc, hc6⟩
          have HSC6 := Lib.hid (HSP.out f l' r' hsc)
          have HC6 := Lib.hid hc6
          generalize dp ++ f = dq at *
          generalize l + l' = l6 at *
          clear hsc hc6 HFE HSP
          cases early
          · go_wp2
            go_roundw
            case rel => first | exact ⟨i + 1, at_ + m, N, cg, X, gs, rbg, dq, r', l6, by go_num, by go_num, rfl, by omega, hm, HGL, HSC6, HC6⟩ | ((repeat apply Exists.intro); exact ⟨⟨i + 1, at_ + m, N, cg, X, gs, rbg, dq, r', l6, by go_num, by go_num, rfl, by omega, hm, HGL, HSC6, HC6⟩, rfl⟩)
            case measure => simp [intOf]; omega
          · rcases dq with _ | ⟨d, dq⟩
            · have HNX := Lib.hid HC6.out.next_none
              go_wp2_with fail
              refine HNX.out.mono ?_
              rintro e w7 ⟨rfl, rfl⟩
              go_wp2
              go_roundw
              case rel => first | exact ⟨i + 1, at_ + m, N, cg, X, gs, rbg, [], r', l6, by go_num, by go_num, rfl, by omega, hm, HGL, HSC6, HC6⟩ | ((repeat apply Exists.intro); exact ⟨⟨i + 1, at_ + m, N, cg, X, gs, rbg, [], r', l6, by go_num, by go_num, rfl, by omega, hm, HGL, HSC6, HC6⟩, rfl⟩)
              case measure => simp [intOf]; omega
            · have HNX := Lib.hid HC6.out.next
              go_wp2_with fail
              refine HNX.out.mono ?_
              rintro e w7 ⟨A7, c7, rfl, hc7, hr7, hd7, _⟩
              have hc8 := hc7.no ((Fr.refl No w7).alloc (.cells #[.slice A7 d.length c7] 22 (0, 0)))
              have HC8 := Lib.hid hc8
              have HR8 := Lib.hid (hr7.fr ((Fr.refl No w7).alloc (.cells #[.slice A7 d.length c7] 22 (0, 0))) (fun _ q => q.elim))
              have HNEW := Lib.hid (fun (_ : 0 < 1) => show ∃ ad, some (⟨w7.heap.size, 0, none⟩ : Addr) = some ad ∧ ∀ (j : Nat) (u : Value), [Value.slice A7 d.length c7][j]? = some u → (w7.alloc (.cells #[.slice A7 d.length c7] 22 (0, 0))).cell? (ad.add j) = some u from ⟨_, rfl, fun j u hj => by rw [add0]; exact ((Bk.new w7 22 [Value.slice A7 d.length c7]).cell j).trans hj⟩)
              have HROW := Lib.hid (show Row _ 22 1 rbg (.slice (some ⟨X, 0, none⟩) N cg) N (gs.map HL.v) by have := hc8.row; rwa [HGL.out] at this)
              clear hc7 hr7 hc8 HC6 HNX
              go_wp2_with (at_builtin; refine wl_append _ rfl (.tmp 83) (.tmp 85) 45 rfl 22 _ 1 24 Tryd.underlying45 infoBys rfl (by decide) rbg _ N (gs.map HL.v) rfl HROW.out (some ⟨w7.heap.size, 0, none⟩) 1 1 [Value.slice A7 d.length c7] rfl rfl HNEW.out (by simp [Value.oneCell']) (by unfold maxLen; omega) (by omega) ?_; intro A9 c9 w9 rb9 hrow9 hF9 hnb9)
              obtain ⟨g9, c9', hrb9, hv9, _⟩ := hrow9.at_ (by omega)
              injection hv9 with e1 _ e3
              subst e1 e3
              have HC9 := Lib.hid (HC8.out.push ⟨A7, c7, none, d⟩ ⟨HR8.out, hd7⟩ hF9 (by rw [HGL.out]; exact hrow9) hnb9)
              have HSC9 := Lib.hid (show Scan (b.take (at_ + m)) ((gs ++ [(⟨A7, c7, none, d⟩ : HL)]).map HL.d ++ dq) l6 r' by
                rw [List.map_append, List.append_assoc]; exact HSC6.out)
              have HGL9 := Lib.hid (show (gs ++ [(⟨A7, c7, none, d⟩ : HL)]).length = N + 1 by rw [List.length_append, HGL.out]; rfl)
              clear hrow9 hF9 hnb9 hrb9 HROW HNEW HC8 HR8 HSC6
              go_wp2
              go_roundw
              case rel => first | exact ⟨i + 1, at_ + m, N + 1, c9, g9, gs ++ [⟨A7, c7, none, d⟩], rb9, dq, r', l6, by go_num, by go_num, by first | rfl | go_num, by omega, hm, HGL9, HSC9, HC9⟩ | ((repeat apply Exists.intro); exact ⟨⟨i + 1, at_ + m, N + 1, c9, g9, gs ++ [⟨A7, c7, none, d⟩], rb9, dq, r', l6, by go_num, by go_num, by first | rfl | go_num, by omega, hm, HGL9, HSC9, HC9⟩, rfl⟩)
              case measure => simp [intOf]; omega
    · have hcs : (decide ((i : Int) < (nc : Int)) = false ∧ decide (i < nc) = false) ∨ ((decide ((i : Int) < (nc : Int)) = true ∧ decide (i < nc) = true) ∧ (decide ((at_ : Int) < (n : Int)) = false ∧ decide (at_ < n) = false)) := by
        simp only [decide_eq_true_eq, decide_eq_false_iff_not]
        omega
      clear hlt
      have HFE := Lib.hid (fun (A' : Option Addr) (c' : Nat) (h : BR Any wr A' (b.drop at_)) => HCI.out.feed A' (n - at_) c' (b.drop at_) (by rw [List.length_drop, HLb.out]) (by omega) HHELD.out (by omega) (by omega) h HT.out)
      have HWH := Lib.hid (fun (f : List (List UInt8)) (l' : Nat) (r' : List UInt8) (h : Scan (r ++ b.drop at_) f l' r') => show F = gs.map HL.d ++ (dp ++ f) ∧ L = l + l' ∧ R = r' by
        have := HSC.out.app _ h
        rw [List.take_append_drop, List.append_assoc] at this
        exact HSC0.out.det this)
      have hcnt0 := HSC0.out.count
      rw [HLb.out] at hcnt0
      have hAs : (A = none ∧ n = 0 ∧ ca = 0) ∨ ((∃ ad, A = some ad) ∧ at_ = ca ∧ n = at_) ∨ ((∃ ad, A = some ad) ∧ n = at_ ∧ ¬ ca = at_) ∨ ((∃ k0 o0, A = some ⟨k0, o0, none⟩) ∧ ¬ ca = at_) := by
        rcases hA : A with _ | ad
        · have := HA0.out hA
          exact .inl ⟨rfl, by omega, this⟩
        · by_cases h1 : at_ = ca
          · exact .inr (.inl ⟨⟨ad, rfl⟩, h1, by omega⟩)
          · by_cases h2 : n = at_
            · exact .inr (.inr (.inl ⟨⟨ad, rfl⟩, h2, fun e => h1 e.symm⟩))
            · have hA1 := HA.out
              rw [hA] at hA1
              obtain ⟨ad', e, b0⟩ := hA1.at_ 0 (by rw [HLb.out]; omega)
              cases e
              rw [show ad.add 0 = ad from rfl] at b0
              obtain ⟨k0, o0, rfl⟩ := spot b0
              exact .inr (.inr (.inr ⟨⟨k0, o0, rfl⟩, fun e => h1 e.symm⟩))
      have hac : at_ ≤ ca := by omega
      have haci : (at_ : Int) ≤ (ca : Int) := by omega
      have hani : (at_ : Int) ≤ (n : Int) := by omega
      have haz : (0 : Int) ≤ (at_ : Int) := by omega
      clear HSC HSC0 HHELD
      have hTN : took F ≤ n := by omega
      obtain ⟨q, hq0⟩ : ∃ q, n = q := ⟨_, rfl⟩
      have HQ := Lib.hid hq0
      rw [hq0] at hcnt0 hTN
      have HTN := Lib.hid hcnt0
      have hqb : q ≤ 1048576 := by omega
      clear hq0
      clear hcnt hcnt0 htl hlb
      rcases hcs with ⟨d1, d1'⟩ | ⟨⟨d1, d1'⟩, d2, d2'⟩
      all_goals
        go_upto_region 22 with (fail)
        rcases hAs with ⟨rfl, rfl, rfl⟩ | ⟨⟨ad, rfl⟩, rfl, rfl⟩ | ⟨⟨ad, rfl⟩, rfl, hne⟩ | ⟨⟨k0, o0, rfl⟩, hne⟩
      all_goals
        go_wp2_with fail
        first
          | refine (HFE.out (some ⟨k0, o0 + at_, none⟩) _ (by
              have := BR.sub (HA.out.fr HCI.out.fr (fun _ _ _ q => q)) at_ (n - at_)
              rwa [List.take_of_length_le (by rw [List.length_drop, HLb.out]; exact Nat.le_refl _)] at this)).mono ?_
          | refine (show Calls Tryd.prog 23 #[.pointer (some ⟨sb, 0, none⟩), .slice _ 0 _] wr _ by
              have := HFE.out
              rw [show n - at_ = 0 by omega] at this
              exact this _ _ (by rw [List.drop_of_length_le (by rw [HLb.out]; omega)]; exact BR.nil _ _ _)).mono ?_
          | refine (show Calls Tryd.prog 23 #[.pointer (some ⟨sb, 0, none⟩), .slice _ 0 _] wr _ by
              have := HFE.out
              rw [Nat.sub_self] at this
              exact this _ _ (by rw [List.drop_of_length_le (by rw [HLb.out]; omega)]; exact BR.nil _ _ _)).mono ?_
          | refine (show Calls Tryd.prog 23 #[.pointer (some ⟨sb, 0, none⟩), .slice _ 0 _] wr _ by
              have := HFE.out
              rw [Nat.zero_sub] at this
              exact this _ _ (by rw [List.drop_of_length_le (by rw [HLb.out]; omega)]; exact BR.nil _ _ _)).mono ?_
      all_goals
        rintro e w6 ⟨rfl, f, l', r', hsc, hc6⟩
        obtain ⟨e1, e2, e3⟩ := HWH.out f l' r' hsc
        rw [← e2, ← e3] at hc6
        generalize dp ++ f = dq at *
        have HC6 := Lib.hid (show CI w w6 sa sb ((gs.map HL.d).drop 0 ++ dq) dq R R L L gs rbg _ by rw [List.drop_zero, ← e1]; exact hc6)
        have HTK := Lib.hid (show 0 + took ((gs.map HL.d).drop 0 ++ dq) = took F by rw [List.drop_zero, ← e1, Nat.zero_add])
        clear hsc hc6 e1 e2 e3 HFE HWH HCI
        go_wp2
        go_loopw [15, 16] (fun v15 v16 wq => ∃ (k M : Nat) (dq' : List (List UInt8)), v15 = .int .i64 (M : Int) ∧ v16 = .int .i64 (k : Int) ∧ 13 * k ≤ M ∧ M ≤ q ∧ Hid (M + took ((gs.map HL.d).drop k ++ dq') = took F) ∧ Hid (CI w wq sa sb ((gs.map HL.d).drop k ++ dq') dq' R R L L gs rbg (.slice (some ⟨X, 0, none⟩) N cg))) (fun v15 _ _ => q - (intOf v15).toNat)
        case atStart => exact ⟨0, 0, dq, rfl, rfl, Nat.le_refl _, Nat.zero_le _, HTK, HC6⟩
        case round =>
          clear HC6 HTK
          obtain ⟨k, M, dq', rfl, rfl, hkM, hMn, HTK, HCI⟩ := hrel
          have hwk : IntKind.i64.wrap ((k : Int) + 1) = (k : Int) + 1 := IntWalk.i64_in _ (by omega)
          rcases hq : (gs.map HL.d).drop k ++ dq' with _ | ⟨d, ds⟩
          · obtain ⟨q1, rfl⟩ := List.append_eq_nil_iff.1 hq
            have hkN : N ≤ k := by
              have := congrArg List.length q1
              rw [List.length_drop, List.length_map, HGL.out] at this
              simp at this
              omega
            have hMF : M = took F := by have := HTK.out; rw [hq, took_nil] at this; omega
            have hci := HCI.out
            rw [hq] at hci
            have HNA := Lib.hid hci.swap.next_none
            have HNB := Lib.hid (fun W (h : Fr No wr W) => (hci.no h).next_none)
            have HSA := Lib.hid (fun W => same none none 0 0 0 0 [] [] W (BR.nil _ _ _) (BR.nil _ _ _) rfl rfl (by omega) (by omega))
            rw [show decide (([] : List UInt8) = []) = true from rfl] at HSA
            have HLO := Lib.hid (fun W (h : Fr No wr W) => (hci.no h).lost_)
            have HHE := Lib.hid (fun W (h : Fr No wr W) => (hci.no h).held_)
            have HLW := Lib.hid (fun W (h : Fr No wr W) => (hci.swap.no h).lost_)
            have HHW := Lib.hid (fun W (h : Fr No wr W) => (hci.swap.no h).held_)
            have HFR := Lib.hid hci.fr
            have dk : decide ((k : Int) < (N : Int)) = false := decide_eq_false (by omega)
            have dk' : decide (k < N) = false := decide_eq_false (by omega)
            obtain ⟨RL, hRL⟩ : ∃ RL, R.length = RL := ⟨_, rfl⟩
            have hend : L + RL + M = q := by have := HTN.out; omega
            rw [hRL] at HHE HHW
            clear hMF
            have hwa : IntKind.i64.wrap ((L : Int) + (RL : Int)) = (L : Int) + (RL : Int) := IntWalk.i64_in _ (by omega)
            have hwb : IntKind.i64.wrap ((L : Int) + (RL : Int) + (M : Int)) = (L : Int) + (RL : Int) + (M : Int) := IntWalk.i64_in _ (by omega)
            have b1 : ((L : Int) == (L : Int)) = true := by simp
            have b2 : ((RL : Int) == (RL : Int)) = true := by simp
            have b3 : ((L : Int) + (RL : Int) + (M : Int) == (q : Int)) = true := by simp; omega
            rw [← HQ.out] at b3
            try rw [show ((0 : Nat) : Int) = 0 from rfl] at b3
            have b4 : decide ((0 : Int) ≤ (L : Int)) = true := decide_eq_true (by omega)
            have b5 : decide ((0 : Int) ≤ (RL : Int)) = true := decide_eq_true (by omega)
            clear hci hq q1 HTK HCI hRL
            go_wp2_with fail
            refine HNA.out.mono ?_
            rintro e w7 ⟨rfl, rfl⟩
            go_wp2_with fail
            refine (HNB.out _ ((Fr.refl No _).alloc (.cells #[] 5 (0, 0)))).mono ?_
            rintro e w8 ⟨rfl, rfl⟩
            go_wp2_with fail
            refine (HSA.out _).mono ?_
            rintro e w9 ⟨rfl, hF9⟩
            have HF9 := Lib.hid (((Fr.refl No w7).alloc (.cells #[] 5 (0, 0))).then_ hF9)
            clear hF9 HNA HNB HSA
            go_wp2_with fail
            refine (HLW.out _ HF9.out).mono ?_
            rintro e w10 ⟨rfl, rfl⟩
            go_wp2_with fail
            refine (HHW.out _ HF9.out).mono ?_
            rintro e w11 ⟨rfl, rfl⟩
            go_wp2_with fail
            refine (HLO.out _ HF9.out).mono ?_
            rintro e w12 ⟨rfl, rfl⟩
            go_wp2_with fail
            refine (HHE.out _ HF9.out).mono ?_
            rintro e w13 ⟨rfl, rfl⟩
            go_wp2
            go_ret
            exact ⟨rfl, HFR.out.then_ HF9.out⟩
          · have hci := HCI.out
            rw [hq] at hci
            have HTK' := Lib.hid (show M + (d.length + 13 + took ds) = took F by have := HTK.out; rwa [hq, took_cons] at this)
            have HNA := Lib.hid hci.swap.next
            obtain ⟨m, hm⟩ : ∃ m, d.length = m := ⟨_, rfl⟩
            have HM := Lib.hid hm
            rw [hm] at HNA HTK'
            have hMm : M + (m + 13) ≤ q := by have := HTK'.out; omega
            have hMmn := hMm
            rw [← HQ.out] at hMmn
            have hwa : IntKind.i64.wrap ((m : Int) + 13) = (m : Int) + 13 := IntWalk.i64_in _ (by omega)
            have hwb : IntKind.i64.wrap ((M : Int) + ((m : Int) + 13)) = (M : Int) + ((m : Int) + 13) := IntWalk.i64_in _ (by omega)
            clear hci HTK
            by_cases hkN : k < N
            · have dk : decide ((k : Int) < (N : Int)) = true := decide_eq_true (by omega)
              have dk' : decide (k < N) = true := decide_eq_true hkN
              have hki : (k : Int) < (N : Int) := by omega
              obtain ⟨z, hz⟩ : ∃ z, gs[k]? = some z := ⟨_, List.getElem?_eq_getElem (by rw [HGL.out]; exact hkN)⟩
              have hdr : (gs.map HL.d).drop k = z.d :: (gs.map HL.d).drop (k + 1) := by
                have hkl : k < (gs.map HL.d).length := by rw [List.length_map, HGL.out]; exact hkN
                rw [List.drop_eq_getElem_cons hkl]
                congr 1
                rw [List.getElem_map]
                have := List.getElem?_eq_some_iff.1 hz
                rw [this.2]
              rw [hdr, List.cons_append, List.cons.injEq] at hq
              obtain ⟨hzd, hds⟩ := hq
              have HZM := Lib.hid (List.mem_of_getElem? hz)
              have HCELL := Lib.hid (show ∀ W dx, CI w W sa sb dx dq' R R L L gs rbg (.slice (some ⟨X, 0, none⟩) N cg) → W.cell? ⟨X, k, none⟩ = some z.v from fun W dx h => by
                obtain ⟨gw', _, hgw', hv', _, hcell, _⟩ := h.row.at_ (by rw [HGL.out]; omega)
                injection hv' with e1 _ e3
                injection e1 with e1
                injection e1 with e1
                subst e1
                exact hcell k z.v (by rw [List.getElem?_map, hz]; rfl))
              have HZD := Lib.hid hzd
              have HDS := Lib.hid hds
              unfold HL.v at HCELL
              rw [hzd, hm] at HCELL
              clear hz hdr hzd hds HCI hm
              go_wp2_with fail
              refine HNA.out.mono ?_
              rintro e w7 ⟨A7, c7, rfl, hc7, hr7, hd7, _⟩
              have hc8 := hc7.swap.no ((Fr.refl No w7).alloc (.cells #[] 5 (0, 0)))
              have x0 := HCELL.out _ _ hc8
              have HC8 := Lib.hid hc8
              have HSA := Lib.hid (same A7 z.A m m c7 z.c d z.d _ (RD.any (hr7.fr ((Fr.refl No w7).alloc (.cells #[] 5 (0, 0))) (fun _ q => q.elim))) (RD.any (hc8.gd z HZM.out).1) HM.out (by rw [HZD.out, HM.out]) (by omega) (by omega))
              rw [show decide (d = z.d) = true from decide_eq_true HZD.out.symm] at HSA
              clear hc7 hr7 hd7 hc8 HNA HCELL HZM
              go_wp2_with fail
              refine HSA.out.mono ?_
              rintro e w9 ⟨rfl, hF9⟩
              have HC9 := Lib.hid (HC8.out.no hF9)
              clear hF9 HC8 HSA x0
              go_wp2
              all_goals
                go_roundw
                case rel => exact ⟨k + 1, M + (m + 13), dq', by go_num, by go_num, by omega, hMm, (by rw [HDS.out]; have := HTK'.out; show M + (m + 13) + took ds = _; omega), (by rw [HDS.out]; exact HC9.out)⟩
                case measure => simp [intOf]; omega
            · have hdn : (gs.map HL.d).drop k = [] := List.drop_of_length_le (by rw [List.length_map, HGL.out]; omega)
              have hdn1 : (gs.map HL.d).drop (k + 1) = [] := List.drop_of_length_le (by rw [List.length_map, HGL.out]; omega)
              rw [hdn, List.nil_append] at hq
              subst hq
              have HD1 := Lib.hid hdn1
              have dk : decide ((k : Int) < (N : Int)) = false := decide_eq_false (by omega)
              have dk' : decide (k < N) = false := decide_eq_false (by omega)
              clear hdn hdn1 HCI hm
              go_wp2_with fail
              refine HNA.out.mono ?_
              rintro e w7 ⟨A7, c7, rfl, hc7, hr7, hd7, _⟩
              have hc8 := hc7.swap.no ((Fr.refl No w7).alloc (.cells #[] 5 (0, 0)))
              have HR8 := Lib.hid (hr7.fr ((Fr.refl No w7).alloc (.cells #[] 5 (0, 0))) (fun _ q => q.elim))
              have HNB := Lib.hid hc8.next
              rw [HM.out] at HNB
              clear hc7 hr7 hd7 hc8 HNA
              go_wp2_with fail
              refine HNB.out.mono ?_
              rintro e w9 ⟨A9, c9, rfl, hc9, hr9, hd9, hk9⟩
              have HC9 := Lib.hid hc9
              have HSA := Lib.hid (same A7 A9 m m c7 c9 d d w9 (RD.any (hk9 _ _ HR8.out)) (RD.any hr9) HM.out HM.out (by omega) (by omega))
              rw [show decide (d = d) = true from decide_eq_true rfl] at HSA
              clear hc9 hr9 hd9 hk9 HNB
              go_wp2_with fail
              refine HSA.out.mono ?_
              rintro e w10 ⟨rfl, hF10⟩
              have HC10 := Lib.hid (HC9.out.no hF10)
              clear hF10 HC9 HSA
              go_wp2
              all_goals
                go_roundw
                case rel => exact ⟨k + 1, M + (m + 13), ds, by go_num, by go_num, by omega, hMm, (by rw [HD1.out, List.nil_append]; have := HTK'.out; show M + (m + 13) + took ds = _; omega), (by rw [HD1.out, List.nil_append]; exact HC10.out)⟩
                case measure => simp [intOf]; omega
end Go.Proofs.YtfpjdgkooikeoaaDoor.Sl
