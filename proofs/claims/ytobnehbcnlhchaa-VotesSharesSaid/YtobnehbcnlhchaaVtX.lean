/- VotesShares: walked. Conditions: none. -/
import Derived.Test.YtobnehbcnlhchaaVtC
import Derived.Test.YtobnehbcnlhchaaVtLB
import Derived.StillTailTactics
namespace Go.Proofs.Ytobnehbcnlhchaa.Vt
open Go.RowKit Go.Proofs.Ytobnehbcnlhchaa.Mem Go.Shelf
set_option linter.unusedVariables false
set_option linter.unusedSimpArgs false
attribute [local go_sem] Oper.semAt_some
def iv (l : List Int) : List Value := l.map (Value.int .i64)
theorem iv_one (l : List Int) : ∀ u ∈ iv l, u.oneCell' = true := by
  intro u hu
  obtain ⟨x, _, rfl⟩ := List.mem_map.1 hu
  rfl
/-- whole numbers that lie -/
def IR (w : World) (A : Option Addr) (l : List Int) : Prop := 0 < l.length → ∃ ad, A = some ad ∧ ∀ (j : Nat) (u : Value), (iv l)[j]? = some u → w.cell? (ad.add j) = some u
theorem IR.fr {S : Nat → Prop} {w w1 : World} {A : Option Addr} {l : List Int} (h : IR w A l) (hf : Fr S w w1) (hn : ∀ k, k < w.heap.size → ¬ S k) : IR w1 A l := fun hl => by
  obtain ⟨ad, h1, h2⟩ := h hl
  refine ⟨ad, h1, fun j u hj => ?_⟩
  have hc := h2 j u hj
  have hlt : (ad.add j).block < w.heap.size := by
    rcases Nat.lt_or_ge (ad.add j).block w.heap.size with q | q
    · exact q
    · rw [World.cell?, Array.getElem?_eq_none q] at hc; simp at hc
  exact Eq.trans (by unfold World.cell?; rw [hf.block _ hlt (hn _ hlt)]) hc
theorem info3 : (Try.prog.info? 3).map (fun i => (i.zero, i.size, i.bytes)) = some (some (.int .i64 0), 1, 8) := by kernel_rfl
theorem one_lit (w : World) (x : Int) : ∃ ad, some (⟨w.heap.size, 0, none⟩ : Addr) = some ad ∧ ∀ (j : Nat) (u : Value), (iv [x])[j]? = some u → (w.alloc (.cells #[.int .i64 x] 3 (0, 0))).cell? (ad.add j) = some u :=
  ⟨_, rfl, fun j u hj => by rw [add0]; exact ((Bk.new w 3 (iv [x])).cell j).trans hj⟩
theorem Fr.ofB {B : Nat} {w w1 : World} (h : Below B w w1) : Fr (fun k => B ≤ k) w w1 := ⟨h.os, h.tape, h.output, h.size, fun k _ hn => h.block k (Nat.lt_of_not_le hn)⟩
theorem keepC {S : Nat → Prop} {w w1 : World} (h : Fr S w w1) {p : Addr} {v : Value} (hc : w.cell? p = some v) (hn : ¬ S p.block) : w1.cell? p = some v := by
  have hlt : p.block < w.heap.size := by
    rcases Nat.lt_or_ge p.block w.heap.size with q | q
    · exact q
    · rw [World.cell?, Array.getElem?_eq_none q] at hc; simp at hc
  exact Eq.trans (by unfold World.cell?; rw [h.block _ hlt hn]) hc
theorem drop0 {g : Nat} {s : List (Bool × (Option Addr × Nat × Nat))} (w : World) (hT : VtL.Tl w g 3 s) (hs : (s.getD 0 (false, none, 0, 0)).1 = true) :
    Calls Try.prog 13 #[.pointer (some ⟨g, 0, none⟩), .int .i64 0] w fun e w' => e = .returned (.bool true) ∧ Fr (fun j => j = g) w w' := by
  have h := VtL.drop_ g 0 3 s w hT (by omega) (by decide)
  rw [hs] at h
  exact h.mono fun e w' h => ⟨h.1, h.2.2⟩
theorem count1 {g : Nat} {s : List (Bool × (Option Addr × Nat × Nat))} (w : World) (hT : VtL.Tl w g 3 s) (hs : (VtL.saidT s 0).length = 1) :
    Calls Try.prog 12 #[.pointer (some ⟨g, 0, none⟩)] w fun e w' => e = .returned (.int .i64 1) ∧ Fr No w w' := by
  have h := VtL.countT g 3 s w hT
  rw [hs] at h
  exact h.mono fun e w' h => ⟨h.1, Fr.of h.2 No⟩
theorem seq_some (f : Nat) (lb : Array Value) (W : World) : (binOp .eql 34 (.func (.func f) #[] lb) Value.nilFunc).run Try.prog W = .ok (.bool false) W := by
  have h : ∀ d : Nat, (Op.equalIn (d + 1) 34 (.func (.func f) #[] lb) Value.nilFunc).run Try.prog W = .ok false W := fun d => by
    simp [Op.equalIn, run_underlying Try.underlying34, go_sem]
  have h2 := h 9999
  rw [show (9999 + 1 : Nat) = Op.maxDepth from rfl] at h2
  simp [binOp, Op.equal, go_sem]
  rw [h2]
  rfl
theorem get1 {g : Nat} {s : List (Bool × (Option Addr × Nat × Nat))} (A : Option Addr) (n c : Nat) (w : World) (hT : VtL.Tl w g 3 s) (hs : s.getD 1 (false, none, 0, 0) = (true, A, n, c)) :
    Calls Try.prog 10 #[.pointer (some ⟨g, 0, none⟩), .int .i64 1] w fun e w' => e = .returned (.tuple #[.slice A n c, .bool true]) ∧ Fr No w w' := by
  have h := VtL.get_ g 1 3 s w hT (by omega) (by decide)
  rw [hs] at h
  exact h
set_option maxHeartbeats 8000000 in
set_option maxRecDepth 100000 in
theorem shares_walk (w : World) (A : Option Addr) (n c : Nat) (l : List Int) (hl : l.length = n) (hA : IR w A l) (hby : n * 8 ≤ 140737488351232) (v : Int) :
    Calls Try.prog 3 #[.slice A n c, .int .i64 v] w fun e w' => e = .returned (.bool true) ∧ Below w.heap.size w w' := by
  obtain ⟨n0, hn0⟩ : ∃ n0, w.heap.size = n0 := ⟨_, rfl⟩
  have HN0 := Lib.hid hn0
  have HL := Lib.hid hl
  have HA := Lib.hid (fun W (hW : Fr No w W) => hA.fr hW (fun _ _ q => q))
  obtain ⟨w1, hw1⟩ : ∃ w1, (w.alloc (.cells #[.int .i64 v] 3 (0, 0))).alloc (.cells #[.bool false] 4 (0, 0)) = w1 := ⟨_, rfl⟩
  have hF1 : Fr No w w1 := by rw [← hw1]; exact ((Fr.refl _ _).alloc _).alloc _
  have hs1 : (w.alloc (.cells #[.int .i64 v] 3 (0, 0))).heap.size = n0 + 1 := by simp [hn0]
  have HV := Lib.hid (show Bk w1 n0 3 [.int .i64 v] by rw [← hw1, ← hn0]; exact (Bk.new w 3 [.int .i64 v]).alloc _)
  have HR := Lib.hid (show Bk w1 (n0 + 1) 4 [.bool false] by rw [← hw1, ← hs1]; exact Bk.new _ 4 [.bool false])
  have hz1 : w1.heap.size = n0 + 2 := by rw [← hw1]; simp [hn0]
  have HF1 := Lib.hid hF1
  have HW1 := Lib.hid hw1
  obtain ⟨b1, hb1⟩ : ∃ b1, n0 + 1 = b1 := ⟨_, rfl⟩
  rw [hb1] at HR hs1
  have HB1 := Lib.hid hb1
  have HS1 := Lib.hid hs1
  clear hF1 hw1 hl hA hn0 hs1 hb1
  refine (callsIn_wide (n := 9)).1 ?_
  refine callsIn_of_wp_marks Try.func3 rfl trivial ?_ rfl
  simp only [Try.ntmps3, List.size_toArray, List.length_cons, List.length_nil, Nat.reduceAdd, Nat.reduceSub, Array.replicate_succ, Array.replicate_zero, List.push_toArray, List.append_toArray, List.nil_append, List.cons_append]
  rw [wpIn_wide]
  go_wp2_with fail
  try rw [HW1.out]
  try rw [HN0.out]
  try rw [HB1.out]
  refine (shown _).mono ?_
  rintro e w2 ⟨rfl, hF2⟩
  have HF2 := Lib.hid hF2
  clear hF2
  go_wp2_with fail
  refine (VtL.new_ 3 (by omega) (by omega) w2).mono ?_
  rintro e w3 ⟨rfl, hT3, hF3⟩
  obtain ⟨gt, hgt⟩ : ∃ gt, w2.heap.size = gt := ⟨_, rfl⟩
  rw [hgt] at hT3
  have HGT := Lib.hid hgt
  have HT3 := Lib.hid hT3
  have HF3 := Lib.hid (HF2.out.then_ hF3)
  have hgt1 : n0 + 2 ≤ gt := by rw [← hgt, ← hz1]; exact HF2.out.size
  clear hT3 hF3 hgt
  obtain ⟨m, hm⟩ : ∃ m, 1 + n = m := ⟨_, rfl⟩
  have hm0 : 0 < m := by omega
  have hm0i : (0 : Int) < (m : Int) := by omega
  have hm8 : m * 8 ≤ 140737488351240 := by omega
  go_upto_region 5 with (fail)
  try rw [HGT.out]
  go_upto_region 6 with (at_builtin; refine wl_append _ rfl (.tmp 42) (.tmp 43) 22 rfl 3 _ 1 8 Try.underlying22 info3 rfl (by decide) (some w3.heap.size) _ 1 (iv [1]) rfl (Row.shut (sp := []) (by rw [List.append_nil]; exact Bk.new w3 3 (iv [1])) rfl rfl (Nat.le_refl _) (by unfold maxLen; omega)) A n c (iv l) rfl (by rw [iv, List.length_map, HL.out, Nat.mul_one]) (fun h => HA.out _ ((HF1.out.then_ HF3.out).alloc _) (by rw [HL.out]; exact h)) (iv_one _) (by unfold maxLen; omega) (by omega) ?_; rw [hm]; intro A4 c4 w4 rb4 hr4 hF4 hnb4)
  have hr4 : Row w4 3 1 rb4 (.slice A4 m c4) m (iv (1 :: l)) := hr4
  have hF34 : Fr No w3 w4 := ((Fr.refl No w3).alloc _).trans hF4 (fun k hk e => by cases e; omega)
  have hw3s := HF3.out.size
  have hrb4 : ∀ k, rb4 = some k → w3.heap.size ≤ k := fun k hk => by
    rcases hnb4 with q | ⟨k', q, hq⟩
    · rw [q] at hk; cases hk; exact Nat.le_refl _
    · rw [q] at hk; cases hk; simp at hq; omega
  obtain ⟨g4, c4', hg4, hv4, hmc4, -, -⟩ := Row.at_ hr4 hm0
  injection hv4 with hA4 _ hc4
  subst hA4 hc4 hg4
  have hg4s : w3.heap.size ≤ g4 := hrb4 g4 rfl
  have hg4l : g4 < w4.heap.size := Row.lt hr4 rfl
  obtain ⟨w5, hw5⟩ : ∃ w5, w4.alloc (.cells #[.slice (some ⟨g4, 0, none⟩) m c4] 22 (0, 0)) = w5 := ⟨_, rfl⟩
  obtain ⟨bo, hbo⟩ : ∃ bo, w4.heap.size = bo := ⟨_, rfl⟩
  rw [hw5, hbo]
  have hF45 : Fr No w4 w5 := by rw [← hw5]; exact (Fr.refl _ _).alloc _
  have HO5 := Lib.hid (show Bk w5 bo 22 [.slice (some ⟨g4, 0, none⟩) m c4] by rw [← hw5, ← hbo]; exact Bk.new w4 22 [.slice (some ⟨g4, 0, none⟩) m c4])
  have HR5 := Lib.hid (hr4.fr hF45 (fun _ _ q => q))
  have HF5 := Lib.hid ((HF3.out.then_ hF34).then_ hF45)
  have HT5 := Lib.hid ((HT3.out.fr hF34 id).fr hF45 id)
  have hw5s : gt < w5.heap.size := HT5.out.lt
  have hbo5 : bo < w5.heap.size := by rw [← hbo, ← hw5]; simp
  have hgt3 : gt < w3.heap.size := HT3.out.lt
  have hne1 : gt ≠ g4 := by omega
  have hne2 : bo ≠ g4 := by omega
  have hne3 : gt ≠ bo := by omega
  clear hF4 hnb4 hr4 hF34 hrb4 hF45 hw5 HT3
  obtain ⟨o0, of⟩ := Bk.one HO5.out
  go_wp2_with fail
  refine (VtL.add_ gt 1 3 _ (some ⟨g4, 0, none⟩, m, c4) w5 HT5.out (by omega) (by decide)).mono ?_
  rintro e w6 ⟨rfl, hT6, hF6⟩
  have HT6 := Lib.hid hT6
  have HO6 := Lib.hid (HO5.out.fr hF6 (fun e => hne3 e.symm))
  have HR6 := Lib.hid (HR5.out.fr hF6 (fun k hk e => by cases hk; exact hne1 e.symm))
  have HF6 := Lib.hid (show Fr No w1 w6 from HF5.out.trans hF6 (fun k hk e => by subst e; omega))
  have hs6 := hF6.size
  clear hT6 hF6 o0 of HT5 HO5 HR5
  go_wp2_with fail
  refine (VtL.clone_ gt 3 _ w6 HT6.out).mono ?_
  rintro e w7 ⟨rfl, hT7, hF7⟩
  obtain ⟨gc, hgc⟩ : ∃ gc, w6.heap.size = gc := ⟨_, rfl⟩
  rw [hgc] at hT7 ⊢
  have hgc6 : w5.heap.size ≤ gc := by rw [← hgc]; exact hs6
  have hgc7 : gc < w7.heap.size := VtL.Tl.lt hT7
  have HC7 := Lib.hid hT7
  have HT7 := Lib.hid (HT6.out.fr hF7 id)
  have HO7 := Lib.hid (HO6.out.fr hF7 id)
  have HR7 := Lib.hid (HR6.out.fr hF7 (fun _ _ q => q))
  have HF7 := Lib.hid (HF6.out.then_ hF7)
  clear hT7 hF7 HT6 HO6 HR6 hgc
  obtain ⟨o0, of⟩ := Bk.one HO7.out
  obtain ⟨v0, vf⟩ := Bk.one (HV.out.fr HF7.out id)
  have fz : w7.frozen? ⟨g4, 0, none⟩ = false := by
    obtain ⟨_, _, h1, _, _, _, h4⟩ := Row.at_ HR7.out hm0
    cases h1
    exact h4 0
  have fc : w7.cell? ⟨g4, 0, none⟩ = some (.int .i64 1) := by
    obtain ⟨_, _, h1, _, _, h3, _⟩ := Row.at_ HR7.out hm0
    cases h1
    exact h3 0 _ rfl
  go_upto_region 11 with (fail)
  clear fz fc
  have HR8 := Lib.hid (show Row (w7.setCell ⟨g4, 0, none⟩ (.int .i64 v)) 3 1 (some g4) (.slice (some ⟨g4, 0, none⟩) m c4) m (iv (v :: l)) from HR7.out.set rfl 0 (.int .i64 v) (by simp [iv]))
  have hF8 : Fr (fun k => k = g4) w7 (w7.setCell ⟨g4, 0, none⟩ (.int .i64 v)) := (Fr.refl (fun k => k = g4) w7).set (p := ⟨g4, 0, none⟩) (.inl rfl) _
  have HT8 := Lib.hid (HT7.out.fr hF8 hne1)
  have HC8 := Lib.hid (HC7.out.fr hF8 (by omega))
  have HO8 := Lib.hid (HO7.out.fr hF8 hne2)
  have HF8 := Lib.hid (show Fr No w1 _ from HF7.out.trans hF8 (fun k hk e => by subst e; omega))
  clear hF8 HT7 HC7 HO7 HR7 o0 of v0 vf
  generalize w7.setCell ⟨g4, 0, none⟩ (.int .i64 v) = w8 at *
  go_wp2_with fail
  refine (get1 (some ⟨g4, 0, none⟩) m c4 w8 HT8.out rfl).mono ?_
  rintro e w9 ⟨rfl, hF9⟩
  have HC9 := Lib.hid (HC8.out.fr hF9 id)
  have HT9 := Lib.hid (HT8.out.fr hF9 id)
  have HO9 := Lib.hid (HO8.out.fr hF9 id)
  have HR9 := Lib.hid (HR8.out.fr hF9 (fun _ _ q => q))
  have HF9 := Lib.hid (HF8.out.then_ hF9)
  clear hF9 HT8 HC8 HO8 HR8
  go_wp2_with fail
  refine (get1 (some ⟨g4, 0, none⟩) m c4 w9 HC9.out rfl).mono ?_
  rintro e wa ⟨rfl, hFa⟩
  have HCa := Lib.hid (HC9.out.fr hFa id)
  have HTa := Lib.hid (HT9.out.fr hFa id)
  have HOa := Lib.hid (HO9.out.fr hFa id)
  have HRa := Lib.hid (HR9.out.fr hFa (fun _ _ q => q))
  have HFa := Lib.hid (HF9.out.then_ hFa)
  clear hFa HT9 HC9 HO9 HR9
  obtain ⟨o0, of⟩ := Bk.one HOa.out
  obtain ⟨v0, vf⟩ := Bk.one (HV.out.fr HFa.out id)
  have r0 : wa.cell? ⟨g4, 0, none⟩ = some (.int .i64 v) := by
    obtain ⟨_, _, h1, h2, _, h3, _⟩ := Row.at_ HRa.out hm0
    cases h1
    exact h3 0 _ rfl
  go_wp2
  go_quiet (fail)
  have HTb := Lib.hid (HTa.out.fr ((Fr.refl No wa).drewN nq) id)
  have HCb := Lib.hid (HCa.out.fr ((Fr.refl No wa).drewN nq) id)
  have HOb := Lib.hid (HOa.out.fr ((Fr.refl No wa).drewN nq) id)
  have HRb := Lib.hid (HRa.out.fr ((Fr.refl No wa).drewN nq) (fun _ _ q => q))
  have HFb := Lib.hid (HFa.out.then_ ((Fr.refl No wa).drewN nq))
  clear HTa HCa HOa HRa HFa o0 of v0 vf r0
  generalize wa.drewN nq = wb at *
  go_wp2_with fail
  refine ((callsIn_wide (n := 9)).1 (VtL.all_in Fence.wide 9 trivial rfl (some ⟨gc, 0, none⟩) wb)).mono ?_
  rintro e wc ⟨rfl, rfl⟩
  have hsq := seq_some 36 #[.pointer (some ⟨wb.heap.size, 0, none⟩)]
  obtain ⟨wc, hwc⟩ : ∃ wc, wb.alloc (.cells #[.pointer (some ⟨gc, 0, none⟩)] 24 (0, 0)) = wc := ⟨_, rfl⟩
  obtain ⟨bp, hbp⟩ : ∃ bp, wb.heap.size = bp := ⟨_, rfl⟩
  have hFc : Fr No wb wc := by rw [← hwc]; exact (Fr.refl _ _).alloc _
  have HP := Lib.hid (show Bk wc bp 24 [.pointer (some ⟨gc, 0, none⟩)] by rw [← hwc, ← hbp]; exact Bk.new wb 24 [.pointer (some ⟨gc, 0, none⟩)])
  have hbps : wc.heap.size = bp + 1 := by rw [← hwc, ← hbp]; simp
  rw [hwc]
  rw [hbp] at hsq ⊢
  have HTc := Lib.hid (HTb.out.fr hFc id)
  have HCc := Lib.hid (HCb.out.fr hFc id)
  have HOc := Lib.hid (HOb.out.fr hFc id)
  have HRc := Lib.hid (HRb.out.fr hFc (fun _ _ q => q))
  have HFc := Lib.hid (HFb.out.then_ hFc)
  have HLT := Lib.hid (show gt < bp ∧ gc < bp ∧ bo < bp ∧ g4 < bp ∧ n0 < bp from by
    have h1 := HTb.out.lt
    have h2 := HCb.out.lt
    have h3 := HOb.out.lt
    have h4 := Row.lt HRb.out rfl
    have h5 := HFb.out.size
    omega)
  clear hFc hwc hbp HTb HCb HOb HRb HFb
  go_wp2
  obtain ⟨hl1, hl2, hl3, hl4, hl5⟩ := HLT.out
  obtain ⟨bm, hbm⟩ : ∃ bm, wc.heap.size = bm := ⟨_, rfl⟩
  obtain ⟨wd, hwd⟩ : ∃ wd, wc.alloc (.cells #[.int .i64 0] 3 (0, 0)) = wd := ⟨_, rfl⟩
  have hFd : Fr No wc wd := by rw [← hwd]; exact (Fr.refl _ _).alloc _
  have HM := Lib.hid (show Bk wd bm 3 [.int .i64 0] by rw [← hwd, ← hbm]; exact Bk.new wc 3 [.int .i64 0])
  have hds : wd.heap.size = bm + 1 := by rw [← hwd, ← hbm]; simp
  have hbmp : bp + 1 = bm := by rw [← hbm, hbps]
  rw [hwd, hbmp]
  have HTd := Lib.hid (HTc.out.fr hFd id)
  have HCd := Lib.hid (HCc.out.fr hFd id)
  have HOd := Lib.hid (HOc.out.fr hFd id)
  have HRd := Lib.hid (HRc.out.fr hFd (fun _ _ q => q))
  have HFd := Lib.hid (HFc.out.then_ hFd)
  have HPd := Lib.hid (HP.out.fr hFd id)
  have HVd := Lib.hid (HV.out.fr HFd.out id)
  have HRVd := Lib.hid (HR.out.fr HFd.out id)
  clear hFd HTc HCc HOc HRc HFc HP hwd hbm hsq
  have HR0 := Lib.hid (show wd.cell? ⟨g4, 0, none⟩ = some (.int .i64 v) by
    obtain ⟨_, _, h1, h2, _, h3, _⟩ := Row.at_ HRd.out hm0
    cases h1
    exact h3 0 _ rfl)
  refine wpIn_wide.1 (wpIn_rangeFunc_ownF (F := Fence.wide) (n := 9) rfl (by omega) (gf := 36) (lb := #[.pointer (some ⟨bp, 0, none⟩)]) rfl trivial (enters_of Try.func36 (by kernel_rfl) rfl)
    (VtL.tally_stops_mem Fence.wide 8 trivial rfl (by omega) bp gc bm 3 _ wd HCd.out (by omega) (by omega) (HPd.out.cell 0)) belowK_t (belowK_b (by omega)) (Below.refl _ _) (fun _ => rfl)
    (fun pre W => (W.cell? ⟨bm, 0, none⟩ = some (.int .i64 (pre.length : Nat)) ∧ W.frozen? ⟨bm, 0, none⟩ = false) ∧ Below bm wd W)
    (fun _ _ _ => False)
    (OwnFrom.and (Own.from (fun s A B row hs hg hr => ⟨cell_kept hs.1 hg hr, (frozen_kept hs.1 hg hr).trans hs.2⟩) _) (ownFrom_below (by omega) (by omega)))
    (fun _ _ _ _ _ hs _ _ => hs)
    ⟨⟨HM.out.cell 0, HM.out.free 0⟩, Below.refl _ _⟩ ?a₁ ?assign ?body ?done ?stop)
  case assign =>
    intro l x W K hK
    gi_wp2
    exact hK
  case body =>
    rintro l pre ⟨x, hxm⟩ W ⟨⟨hc, hf⟩, hB⟩ hlen
    obtain rfl : x = (1, some ⟨g4, 0, none⟩, m, c4) := by simpa [VtL.saidT, VtL.no7] using hxm
    have hFB := Fr.ofB hB
    obtain ⟨v0, vf⟩ := Bk.one (HVd.out.fr hFB (by omega))
    obtain ⟨o0, of⟩ := Bk.one (HOd.out.fr hFB (by omega))
    have r0 : W.cell? ⟨g4, 0, none⟩ = some (.int .i64 v) := keepC hFB HR0.out (by show ¬ bm ≤ g4; omega)
    have hw : IntKind.i64.wrap ((pre.length : Int) + 1) = (pre.length : Int) + 1 := IntWalk.i64_in _ (by omega)
    gi_wp2
    refine quiet_in_round rfl (by kernel_rfl) (by kernel_rfl) ?_
    repeat (gi_big_quiet_step (fail))
    refine wpQuietIn_nil ?_
    intro _ hw'
    obtain ⟨nq, hw''⟩ := hw'
    subst hw''
    have hc2 : (W.drewN nq).cell? ⟨bm, 0, none⟩ = some (.int .i64 (pre.length : Nat)) := hc
    have hf2 : (W.drewN nq).frozen? ⟨bm, 0, none⟩ = false := hf
    gi_wp2
    have hwb : Fr (fun k => k = bm) W ((W.drewN nq).setCell ⟨bm, 0, none⟩ (.int .i64 ((pre.length : Int) + 1))) := ((Fr.refl (fun k => k = bm) W).drewN nq).set (p := ⟨bm, 0, none⟩) (.inl rfl) _
    have hko : KeepsOthers W ((W.drewN nq).setCell ⟨bm, 0, none⟩ (.int .i64 ((pre.length : Int) + 1))) := KeepsOthers.trans (show KeepsOthers W (W.drewN nq) from ⟨Nat.le_refl _, fun _ _ h _ => h⟩) (KeepsOthers.setCell (W.drewN nq) _ _)
    refine ⟨hko, hwb.toB (fun k hk => by omega) (by have := hB.size; omega), ⟨?_, ?_⟩, Below.fr hB hwb (fun k hk => by omega) (by have := hB.size; omega)⟩
    · rw [List.length_append]; exact World.cell?_setCell_same' _ _ _ (by rw [hc2]; rfl)
    · rw [World.frozen?_setCell]; exact hf2
  case done =>
    rintro D ys W hD hys ⟨⟨hc, hf⟩, hB⟩ hK
    have hys1 : ys.length = 1 := by have h := congrArg List.length hys; rw [List.length_map] at h; exact h
    rw [hys1] at hc
    have hFB := Fr.ofB hB
    obtain ⟨v0, vf⟩ := Bk.one (HVd.out.fr hFB (by omega))
    obtain ⟨o0, of⟩ := Bk.one (HOd.out.fr hFB (by omega))
    have HRW := Lib.hid (HRd.out.fr hFB (fun k hk q => by cases hk; omega))
    have HTW := Lib.hid (HTd.out.fr hFB (by omega))
    have HCW := Lib.hid (HCd.out.fr hFB (by omega))
    obtain ⟨u, hu⟩ : ∃ u, IntKind.i64.wrap (v + 1) = u := ⟨_, rfl⟩
    obtain ⟨q, hq⟩ : ∃ q, 1 + m = q := ⟨_, rfl⟩
    have hq8 : q * 8 ≤ 140737488351248 := by omega
    have HSRC := Lib.hid (show ∀ W1, Fr No W W1 → ∃ ad, some (⟨g4, 0, none⟩ : Addr) = some ad ∧ ∀ (j : Nat) (y : Value), (iv (v :: l))[j]? = some y → W1.cell? (ad.add j) = some y from fun W1 hW1 => ⟨_, rfl, fun j y hj => by
      obtain ⟨_, _, h1, h2, _, h3, _⟩ := Row.at_ (HRW.out.fr hW1 (fun _ _ q => q)) hm0
      cases h1
      rw [add0]
      exact h3 j y hj⟩)
    obtain ⟨q0, qf⟩ := Bk.one ((HOd.out.fr hFB (by omega)).alloc (.cells #[.int .i64 u] 3 (0, 0)))
    go_upto_region 26 with (at_builtin; refine wl_append _ rfl (.tmp 137) (.tmp 138) 22 rfl 3 _ 1 8 Try.underlying22 info3 rfl (by decide) (some W.heap.size) _ 1 (iv [u]) rfl (Row.shut (sp := []) (by rw [List.append_nil]; exact Bk.new W 3 (iv [u])) rfl rfl (Nat.le_refl _) (by unfold maxLen; omega)) (some ⟨g4, 0, none⟩) m c4 (iv (v :: l)) rfl (by rw [iv, List.length_map, List.length_cons, HL.out, Nat.mul_one]; omega) (fun h => HSRC.out _ ((Fr.refl No W).alloc _)) (iv_one _) (by unfold maxLen; omega) (by omega) ?_; rw [hq]; intro A6 c6 w6 rb6 hr6 hF6 hnb6)
    have hwg : Fr No W w6 := ((Fr.refl No W).alloc _).trans hF6 (fun k hk e => by cases e; omega)
    have HC6 := Lib.hid (HCW.out.fr hwg id)
    have HT6 := Lib.hid (HTW.out.fr hwg id)
    have HW6 := Lib.hid hwg
    clear hr6 hF6 hnb6 hwg q0 qf v0 vf o0 of HSRC
    go_wp2_with fail
    refine (VtL.add_ gc 1 3 _ (A6, q, c6) w6 HC6.out (by omega) (by decide)).mono ?_
    rintro e w7 ⟨rfl, hT7, hF7⟩
    have HC7 := Lib.hid hT7
    have HT7 := Lib.hid (HT6.out.fr hF7 (by omega))
    have HW7 := Lib.hid (show Fr (fun k => k = gc) W w7 from (HW6.out.mono (fun _ _ q => q.elim)).then_ hF7)
    clear hT7 hF7 HC6 HT6 HW6
    go_wp2_with fail
    refine (VtL.add_ gc 0 3 _ (A6, q, c6) w7 HC7.out (by omega) (by decide)).mono ?_
    rintro e w8 ⟨rfl, hT8, hF8⟩
    have HC8 := Lib.hid hT8
    have HT8 := Lib.hid (HT7.out.fr hF8 (by omega))
    have HW8 := Lib.hid (HW7.out.then_ hF8)
    clear hT8 hF8 HC7 HT7 HW7
    go_wp2_with fail
    refine (get1 (some ⟨g4, 0, none⟩) m c4 w8 HT8.out rfl).mono ?_
    rintro e w9 ⟨rfl, hF9⟩
    have HC9 := Lib.hid (HC8.out.fr hF9 id)
    have HT9 := Lib.hid (HT8.out.fr hF9 id)
    have HW9 := Lib.hid (HW8.out.then_ (hF9.mono (fun _ _ q => q.elim)))
    clear hF9 HC8 HT8 HW8
    go_wp2_with fail
    refine (get1 A6 q c6 w9 HC9.out rfl).mono ?_
    rintro e wa ⟨rfl, hFa⟩
    have HCa := Lib.hid (HC9.out.fr hFa id)
    have HTa := Lib.hid (HT9.out.fr hFa id)
    have HWa := Lib.hid (HW9.out.then_ (hFa.mono (fun _ _ q => q.elim)))
    clear hFa HC9 HT9 HW9
    go_wp2_with fail
    refine (count1 wa HTa.out rfl).mono ?_
    rintro e wb ⟨rfl, hFb⟩
    have HCb := Lib.hid (HCa.out.fr hFb id)
    have HWb := Lib.hid (HWa.out.then_ (hFb.mono (fun _ _ q => q.elim)))
    clear hFb HCa HTa HWa
    go_wp2_with fail
    refine (drop0 wb HCb.out rfl).mono ?_
    rintro e wc2 ⟨rfl, hFc⟩
    have HWc := Lib.hid (HWb.out.then_ hFc)
    clear hFc HCb HWb
    obtain ⟨v0, vf⟩ := Bk.one ((HVd.out.fr hFB (by omega)).fr HWc.out (by omega))
    obtain ⟨o0, of⟩ := Bk.one ((HOd.out.fr hFB (by omega)).fr HWc.out (by omega))
    have r0 : wc2.cell? ⟨g4, 0, none⟩ = some (.int .i64 v) := keepC HWc.out (keepC hFB HR0.out (by show ¬ bm ≤ g4; omega)) (by show ¬ g4 = gc; omega)
    have m0 : wc2.cell? ⟨bm, 0, none⟩ = some (.int .i64 1) := keepC HWc.out hc (by show ¬ bm = gc; omega)
    have hb1e := HB1.out
    have hRV := (HRVd.out.fr hFB (by omega)).fr HWc.out (by omega)
    have HRV := Lib.hid hRV
    obtain ⟨rv0, rvf⟩ := Bk.one hRV
    have hq0 : 0 < q := by omega
    clear hRV
    go_wp2_with fail
    have hm0' : (m : Int) ≠ 0 := by omega
    go_still_tail 30, (by kernel_rfl)
    change wpList _ _ _ _ _ wc2.drew
    have rv0' : wc2.drew.cell? ⟨b1, 0, none⟩ = some (.bool false) := rv0
    have rvf' : wc2.drew.frozen? ⟨b1, 0, none⟩ = false := rvf 0
    go_wp2
    have hDl : D < W.heap.size := (Array.getElem?_eq_some_iff.1 hK).1
    have hD2 : wc2.heap[D]? = some (.deferred (some [])) := (HWc.out.block D hDl (by omega)).trans hK
    have hK2 : ((wc2.setCell ⟨b1, 0, none⟩ (.bool true)).drew).heap[D]? = some (.deferred (some [])) := (Below.heap_setCell wc2 ⟨b1, 0, none⟩ (.bool true) D (by show D ≠ b1; omega)).trans hD2
    have hres : ((wc2.setCell ⟨b1, 0, none⟩ (.bool true)).drew).cell? ⟨b1, 0, none⟩ = some (.bool true) := World.cell?_setCell_same' wc2 _ _ (by rw [rv0]; rfl)
    have hres2 := cell_kept hres (grownBy_putObj' _ D (.deferred none)) (fun r e => by cases e; exact ⟨_, hK2, rfl⟩)
    refine ⟨by simp, .inl ⟨_, _, rfl, run_takeDeferred hK2, ?_⟩⟩
    refine ⟨_, by simp [results, Try.results3, go_sem, hres2], rfl, ?_⟩
    have hn0 := HN0.out
    have B2 : Below w.heap.size w wd := Below.fr0 HF1.out.to HFd.out (by omega)
    have hs2 := B2.size
    have B3 : Below w.heap.size w W := B2.trans (hB.mono (by omega))
    have hs3 := B3.size
    have B4 : Below w.heap.size w wc2 := Below.fr B3 HWc.out (fun j hj => by omega) hs3
    have B5 : Below w.heap.size w ((wc2.setCell ⟨b1, 0, none⟩ (.bool true)).drew) := (B4.setCell (p := ⟨b1, 0, none⟩) (by show w.heap.size ≤ b1; omega) _).drew
    exact B5.trans (belowK_b (w := w) (Nat.le_refl _) _ D _ _ (by omega) hK2 rfl rfl)
  case stop =>
    rintro D c pre W _ _ h _
    exact h.elim
end Go.Proofs.Ytobnehbcnlhchaa.Vt
