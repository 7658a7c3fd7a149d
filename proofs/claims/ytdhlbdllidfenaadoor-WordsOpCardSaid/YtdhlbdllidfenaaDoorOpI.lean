/- Words: what the document's ReadOp answers, kind by kind: walked (printed by a program of ours). Conditions: none. -/
import Derived.Test.YtdhlbdllidfenaaDoorOpD
import Derived.Test.YtdhlbdllidfenaaDoorOpG
import Derived.Test.YtdhlbdllidfenaaDoorReF
namespace Go.Proofs.YtdhlbdllidfenaaDoor.Wd
open Go.RowKit Go.Proofs.YtdhlbdllidfenaaDoor.Mem
open Go.Proofs.YtdhlbdllidfenaaDoor.Nu (numL numE wNumber rNumber Vs num_dec num_is)
set_option linter.unusedVariables false
set_option linter.unusedSimpArgs false
theorem rKinds (w : World) : Calls Tryd.prog 40 #[] w fun e w' => ∃ g, e = .returned (.slice (some ⟨g, 0, none⟩) 9 9) ∧ Bk w' g 9 (kindsL.map sv) ∧ Fr No w w' := by
  go_enter Tryd.func40, Tryd.ntmps40
  go_wp2
  go_ret
  exact ⟨_, rfl, Bk.new w 9 (kindsL.map sv), (Fr.refl _ _).alloc _⟩
theorem kindAt {u : List UInt8} {p : ByteArray} (hp : (⟨u.toArray⟩ : ByteArray) = p) (g : Nat) (W : World) (hB : Bk W g 9 (kindsL.map sv)) : Calls Tryd.prog 37 #[.slice (some ⟨g, 0, none⟩) 9 9, .int .i64 1, .string p] W fun e w' => e = .returned (.int .i64 (kindK u)) ∧ Fr No W w' := by
  subst hp
  exact rIndex (some ⟨g, 0, none⟩) 9 9 1 kindsL u rfl (by omega) (by omega) W (Bk.texts hB Any trivial)
set_option maxHeartbeats 8000000 in
set_option maxRecDepth 100000 in
theorem rReadO1 (A : Option Addr) (n c : Nat) (u : List UInt8) (r : List (List UInt8)) (hk : kindK u = 1) (hl : (u :: r).length = n) (hn : n ≤ 8796093022000) (hx : ∀ x ∈ u :: r, x.length ≤ 140737488351232) (w : World) (hT : TR Any w A (u :: r)) :
    Calls Tryd.prog 27 #[.slice A n c] w (Ro w (readO (u :: r))) := by
  have HRO := Lib.hid (show readO (u :: r) = if r.length + 1 < manyK 1 then (ov0, 0, 162) else match layO 1 r with | none => (ov0, 0, 163) | some o => if chkO o ≠ 0 then (ov0, 0, chkO o) else (o, manyK 1, 0) by
    unfold readO
    dsimp only
    rw [hk]; rfl)
  have hn0 : 0 < n := by rw [← hl]; simp
  have hn0i : (0 : Int) < (n : Int) := by omega
  have hne : ((n : Int) == 0) = false := by rw [beq_eq_false_iff_ne]; omega
  obtain ⟨ad, hA, hc0⟩ := hT.at_ 0 (by simp)
  subst hA
  obtain ⟨p0, hp0⟩ : ∃ p0 : ByteArray, (⟨u.toArray⟩ : ByteArray) = p0 := ⟨_, rfl⟩
  have hc0 : w.cell? ad = some (.string p0) := by have h := hc0; rw [← hp0]; exact h
  have HKI := Lib.hid (fun g W hB => kindAt hp0 g W hB)
  rw [hk] at HKI
  have HT := Lib.hid hT
  have HL := Lib.hid hl
  have HX := Lib.hid hx
  obtain ⟨m0, hm0⟩ : ∃ m0, r.length = m0 := ⟨_, rfl⟩
  have hm0n : m0 + 1 = n := by rw [← hl, ← hm0]; simp
  have HM0 := Lib.hid hm0
  obtain ⟨w1, hw1⟩ : ∃ w1, w.alloc ZO = w1 := ⟨_, rfl⟩
  have HF1 := Lib.hid (show Fr No w w1 by rw [← hw1]; exact (Fr.refl _ _).alloc _)
  have HZ1 := Lib.hid (show Bk w1 w.heap.size 44 [.int .i64 0, .string ⟨#[]⟩, .string ⟨#[]⟩, .int .i64 0, .int .i64 0] by rw [← hw1]; exact Bk.new w 44 [.int .i64 0, .string ⟨#[]⟩, .string ⟨#[]⟩, .int .i64 0, .int .i64 0])
  have ca0 := keepC HF1.out hc0 id
  have HW1 := Lib.hid (show w.alloc (.cells #[.int .i64 0, .string ⟨#[]⟩, .string ⟨#[]⟩, .int .i64 0, .int .i64 0] 44 (0, 0)) = w1 from hw1)
  clear hk hT hl hx hp0 hm0 hw1 hc0
  go_enter Tryd.func27, Tryd.ntmps27
  go_upto_region 3 with (fail)
  rw [HW1.out]
  go_region_law (first | (go_simp; go_at_call 40; refine (rKinds _).mono ?_; rintro e w3 ⟨g3, rfl, hB3, hF3⟩; have hF3 : Fr No w1 w3 := ((Fr.refl No _).drew).then_ hF3; have cb0 := keepC hF3 ca0 id) | (go_simp; go_at_call 37; refine (HKI.out g3 _ hB3).mono ?_; rintro e w4 ⟨rfl, hF4⟩))
  all_goals
    have HF4 := Lib.hid ((HF1.out.then_ hF3).then_ hF4)
    have HZ4 := Lib.hid ((HZ1.out.fr hF3 id).fr hF4 id)
    clear hF3 hF4 hB3 cb0 ca0 HKI HW1 HZ1 HF1
    obtain ⟨z0, z1, z2, z3, z4, zf⟩ := Bk.five HZ4.out
    by_cases hfew : m0 < 1
    · have e1 : decide ((n : Int) < 2) = true := decide_eq_true (by omega)
      have e1' : decide (n < 2) = true := decide_eq_true (by omega)
      have HR := Lib.hid (show readO (u :: r) = (ov0, 0, 162) by rw [HRO.out, if_pos (by have := HM0.out; unfold manyK; simp; try omega)])
      go_wp2
      refine bodyPost_ret (v := .tuple #[.agg #[.int .i64 0, .string ⟨#[]⟩, .string ⟨#[]⟩, .int .i64 0, .int .i64 0], .int .i64 0, .int .i64 162]) (by simp [results, Tryd.results27, go_sem, z0, z1, z2, z3, z4, zf]) rfl ⟨by rw [HR.out]; rfl, ?_⟩
      repeat (refine Fr.set ?_ (.inr (by simp)) _)
      exact HF4.out
    have e1 : decide ((n : Int) < 2) = false := decide_eq_false (by omega)
    have e1' : decide (n < 2) = false := decide_eq_false (by omega)
    have HRO := Lib.hid (show readO (u :: r) = match layO 1 r with | none => (ov0, 0, 163) | some o => if chkO o ≠ 0 then (ov0, 0, chkO o) else (o, manyK 1, 0) by rw [HRO.out, if_neg (by have := HM0.out; unfold manyK; simp; try omega)])
    obtain ⟨ra, r2, rfl⟩ : ∃ ra r2, r = ra :: r2 := by
      have hm := HM0.out
      match r, hm with
      | ra :: r2, _ => exact ⟨ra, r2, rfl⟩
      | [], hm => simp at hm; omega
    obtain ⟨q1, hq1⟩ : ∃ q : ByteArray, (⟨ra.toArray⟩ : ByteArray) = q := ⟨_, rfl⟩
    have HQ1 := Lib.hid hq1
    have h1n : (1 : Int) < (n : Int) := by omega
    have h1n' : 1 < n := by omega
    have HX1 := Lib.hid (HX.out ra (by simp))
    clear hq1
    have h4s : w.heap.size < w4.heap.size := HZ4.out.lt
    obtain ⟨w5, hw5⟩ : ∃ w5, w4.alloc (.cells #[.int .i64 1, .string ⟨#[]⟩, .string ⟨#[]⟩, .int .i64 0, .int .i64 0] 44 (0, 0)) = w5 := ⟨_, rfl⟩
    obtain ⟨bo, hbo⟩ : ∃ bo, w4.heap.size = bo := ⟨_, rfl⟩
    have HM5 := Lib.hid (show MidO w w5 bo 1 ⟨#[]⟩ ⟨#[]⟩ 0 0 by
      rw [← hw5, ← hbo]
      exact ⟨HZ4.out.alloc _, Bk.new w4 44 [.int .i64 1, .string ⟨#[]⟩, .string ⟨#[]⟩, .int .i64 0, .int .i64 0], HF4.out.alloc _, h4s⟩)
    have HW5 := Lib.hid hw5
    have HBO := Lib.hid hbo
    clear hw5 hbo h4s z0 z1 z2 z3 z4 zf
    go_upto_region 16 with (fail)
    rw [HW5.out, HBO.out]
    clear HW5 HBO
    obtain ⟨o0, o1, o2, o3, o4, of⟩ := Bk.five HM5.out.o
    obtain ⟨z0, z1, z2, z3, z4, zf⟩ := Bk.five HM5.out.z
    have c1 := TR.here HT.out HM5.out.fr (j := 1) (by simp) (by omega) HQ1.out
    go_upto_region 18 with (fail)
    have HMw7 := Lib.hid (HM5.out.set1 q1)
    generalize w5.setCell ⟨bo, 1, none⟩ (.string q1) = w7 at *
    clear o0 o1 o2 o3 o4 of z0 z1 z2 z3 z4 zf c1
    obtain ⟨o0, o1, o2, o3, o4, of⟩ := Bk.five HMw7.out.o
    obtain ⟨z0, z1, z2, z3, z4, zf⟩ := Bk.five HMw7.out.z
    have HRO := Lib.hid (show readO (u :: ra :: r2) = if chkO ⟨1, ra, [], 0, 0⟩ ≠ 0 then (ov0, 0, chkO ⟨1, ra, [], 0, 0⟩) else (⟨1, ra, [], 0, 0⟩, 2, 0) by rw [HRO.out]; unfold layO manyK; simp [])
    have HCK := Lib.hid (fun W => rCheck1 ⟨1, ra, [], 0, 0⟩ rfl W)
    obtain ⟨rr, hrr⟩ : ∃ rr, chkO ⟨1, ra, [], 0, 0⟩ = rr := ⟨_, rfl⟩
    rw [hrr] at HCK HRO
    unfold OV.v sv at HCK
    dsimp only at HCK
    rw [HQ1.out] at HCK
    clear hrr
    go_wp2_with fail
    refine (HCK.out _).mono ?_
    rintro e wk ⟨rfl, hFk⟩
    have HMk := Lib.hid (HMw7.out.no hFk)
    clear o0 o1 o2 o3 o4 of z0 z1 z2 z3 z4 zf hFk HCK
    obtain ⟨o0, o1, o2, o3, o4, of⟩ := Bk.five HMk.out.o
    obtain ⟨z0, z1, z2, z3, z4, zf⟩ := Bk.five HMk.out.z
    by_cases hz : rr = 0
    · subst hz
      have HR := Lib.hid (show readO (u :: ra :: r2) = (⟨1, ra, [], 0, 0⟩, 2, 0) by rw [HRO.out, if_neg (fun q => q rfl)])
      go_wp2
      refine bodyPost_ret (v := .tuple #[.agg #[.int .i64 1, .string q1, .string ⟨#[]⟩, .int .i64 0, .int .i64 0], .int .i64 2, .int .i64 0]) (by simp [results, Tryd.results27, go_sem, z0, z1, z2, z3, z4, zf]) rfl ⟨?_, ?_⟩
      · rw [HR.out]
        unfold OV.v sv
        dsimp only
        rw [HQ1.out]
        try rfl
      · repeat (refine Fr.set ?_ (.inr (by simp)) _)
        exact HMk.out.fr
    · have HR := Lib.hid (show readO (u :: ra :: r2) = (ov0, 0, rr) by rw [HRO.out, if_pos hz])
      have e6 : (rr != 0) = true := by rw [bne_iff_ne]; exact hz
      go_wp2
      refine bodyPost_ret (v := .tuple #[.agg #[.int .i64 0, .string ⟨#[]⟩, .string ⟨#[]⟩, .int .i64 0, .int .i64 0], .int .i64 0, .int .i64 rr]) (by simp [results, Tryd.results27, go_sem, z0, z1, z2, z3, z4, zf]) rfl ⟨by rw [HR.out]; rfl, ?_⟩
      repeat (refine Fr.set ?_ (.inr (by simp)) _)
      exact HMk.out.fr
set_option maxHeartbeats 8000000 in
set_option maxRecDepth 100000 in
theorem rReadO2 (A : Option Addr) (n c : Nat) (u : List UInt8) (r : List (List UInt8)) (hk : kindK u = 2) (hl : (u :: r).length = n) (hn : n ≤ 8796093022000) (hx : ∀ x ∈ u :: r, x.length ≤ 140737488351232) (w : World) (hT : TR Any w A (u :: r)) :
    Calls Tryd.prog 27 #[.slice A n c] w (Ro w (readO (u :: r))) := by
  have HRO := Lib.hid (show readO (u :: r) = if r.length + 1 < manyK 2 then (ov0, 0, 162) else match layO 2 r with | none => (ov0, 0, 163) | some o => if chkO o ≠ 0 then (ov0, 0, chkO o) else (o, manyK 2, 0) by
    unfold readO
    dsimp only
    rw [hk]; rfl)
  have hn0 : 0 < n := by rw [← hl]; simp
  have hn0i : (0 : Int) < (n : Int) := by omega
  have hne : ((n : Int) == 0) = false := by rw [beq_eq_false_iff_ne]; omega
  obtain ⟨ad, hA, hc0⟩ := hT.at_ 0 (by simp)
  subst hA
  obtain ⟨p0, hp0⟩ : ∃ p0 : ByteArray, (⟨u.toArray⟩ : ByteArray) = p0 := ⟨_, rfl⟩
  have hc0 : w.cell? ad = some (.string p0) := by have h := hc0; rw [← hp0]; exact h
  have HKI := Lib.hid (fun g W hB => kindAt hp0 g W hB)
  rw [hk] at HKI
  have HT := Lib.hid hT
  have HL := Lib.hid hl
  have HX := Lib.hid hx
  obtain ⟨m0, hm0⟩ : ∃ m0, r.length = m0 := ⟨_, rfl⟩
  have hm0n : m0 + 1 = n := by rw [← hl, ← hm0]; simp
  have HM0 := Lib.hid hm0
  obtain ⟨w1, hw1⟩ : ∃ w1, w.alloc ZO = w1 := ⟨_, rfl⟩
  have HF1 := Lib.hid (show Fr No w w1 by rw [← hw1]; exact (Fr.refl _ _).alloc _)
  have HZ1 := Lib.hid (show Bk w1 w.heap.size 44 [.int .i64 0, .string ⟨#[]⟩, .string ⟨#[]⟩, .int .i64 0, .int .i64 0] by rw [← hw1]; exact Bk.new w 44 [.int .i64 0, .string ⟨#[]⟩, .string ⟨#[]⟩, .int .i64 0, .int .i64 0])
  have ca0 := keepC HF1.out hc0 id
  have HW1 := Lib.hid (show w.alloc (.cells #[.int .i64 0, .string ⟨#[]⟩, .string ⟨#[]⟩, .int .i64 0, .int .i64 0] 44 (0, 0)) = w1 from hw1)
  clear hk hT hl hx hp0 hm0 hw1 hc0
  go_enter Tryd.func27, Tryd.ntmps27
  go_upto_region 3 with (fail)
  rw [HW1.out]
  go_region_law (first | (go_simp; go_at_call 40; refine (rKinds _).mono ?_; rintro e w3 ⟨g3, rfl, hB3, hF3⟩; have hF3 : Fr No w1 w3 := ((Fr.refl No _).drew).then_ hF3; have cb0 := keepC hF3 ca0 id) | (go_simp; go_at_call 37; refine (HKI.out g3 _ hB3).mono ?_; rintro e w4 ⟨rfl, hF4⟩))
  all_goals
    have HF4 := Lib.hid ((HF1.out.then_ hF3).then_ hF4)
    have HZ4 := Lib.hid ((HZ1.out.fr hF3 id).fr hF4 id)
    clear hF3 hF4 hB3 cb0 ca0 HKI HW1 HZ1 HF1
    obtain ⟨z0, z1, z2, z3, z4, zf⟩ := Bk.five HZ4.out
    by_cases hfew : m0 < 1
    · have e1 : decide ((n : Int) < 2) = true := decide_eq_true (by omega)
      have e1' : decide (n < 2) = true := decide_eq_true (by omega)
      have HR := Lib.hid (show readO (u :: r) = (ov0, 0, 162) by rw [HRO.out, if_pos (by have := HM0.out; unfold manyK; simp; try omega)])
      go_wp2
      refine bodyPost_ret (v := .tuple #[.agg #[.int .i64 0, .string ⟨#[]⟩, .string ⟨#[]⟩, .int .i64 0, .int .i64 0], .int .i64 0, .int .i64 162]) (by simp [results, Tryd.results27, go_sem, z0, z1, z2, z3, z4, zf]) rfl ⟨by rw [HR.out]; rfl, ?_⟩
      repeat (refine Fr.set ?_ (.inr (by simp)) _)
      exact HF4.out
    have e1 : decide ((n : Int) < 2) = false := decide_eq_false (by omega)
    have e1' : decide (n < 2) = false := decide_eq_false (by omega)
    have HRO := Lib.hid (show readO (u :: r) = match layO 2 r with | none => (ov0, 0, 163) | some o => if chkO o ≠ 0 then (ov0, 0, chkO o) else (o, manyK 2, 0) by rw [HRO.out, if_neg (by have := HM0.out; unfold manyK; simp; try omega)])
    obtain ⟨ra, r2, rfl⟩ : ∃ ra r2, r = ra :: r2 := by
      have hm := HM0.out
      match r, hm with
      | ra :: r2, _ => exact ⟨ra, r2, rfl⟩
      | [], hm => simp at hm; omega
    obtain ⟨q1, hq1⟩ : ∃ q : ByteArray, (⟨ra.toArray⟩ : ByteArray) = q := ⟨_, rfl⟩
    have HQ1 := Lib.hid hq1
    have h1n : (1 : Int) < (n : Int) := by omega
    have h1n' : 1 < n := by omega
    have HX1 := Lib.hid (HX.out ra (by simp))
    clear hq1
    have h4s : w.heap.size < w4.heap.size := HZ4.out.lt
    obtain ⟨w5, hw5⟩ : ∃ w5, w4.alloc (.cells #[.int .i64 2, .string ⟨#[]⟩, .string ⟨#[]⟩, .int .i64 0, .int .i64 0] 44 (0, 0)) = w5 := ⟨_, rfl⟩
    obtain ⟨bo, hbo⟩ : ∃ bo, w4.heap.size = bo := ⟨_, rfl⟩
    have HM5 := Lib.hid (show MidO w w5 bo 2 ⟨#[]⟩ ⟨#[]⟩ 0 0 by
      rw [← hw5, ← hbo]
      exact ⟨HZ4.out.alloc _, Bk.new w4 44 [.int .i64 2, .string ⟨#[]⟩, .string ⟨#[]⟩, .int .i64 0, .int .i64 0], HF4.out.alloc _, h4s⟩)
    have HW5 := Lib.hid hw5
    have HBO := Lib.hid hbo
    clear hw5 hbo h4s z0 z1 z2 z3 z4 zf
    go_upto_region 16 with (fail)
    rw [HW5.out, HBO.out]
    clear HW5 HBO
    obtain ⟨o0, o1, o2, o3, o4, of⟩ := Bk.five HM5.out.o
    obtain ⟨z0, z1, z2, z3, z4, zf⟩ := Bk.five HM5.out.z
    have c1 := TR.here HT.out HM5.out.fr (j := 1) (by simp) (by omega) HQ1.out
    go_upto_region 18 with (fail)
    have HMw7 := Lib.hid (HM5.out.set1 q1)
    generalize w5.setCell ⟨bo, 1, none⟩ (.string q1) = w7 at *
    clear o0 o1 o2 o3 o4 of z0 z1 z2 z3 z4 zf c1
    obtain ⟨o0, o1, o2, o3, o4, of⟩ := Bk.five HMw7.out.o
    obtain ⟨z0, z1, z2, z3, z4, zf⟩ := Bk.five HMw7.out.z
    have HRO := Lib.hid (show readO (u :: ra :: r2) = if chkO ⟨2, ra, [], 0, 0⟩ ≠ 0 then (ov0, 0, chkO ⟨2, ra, [], 0, 0⟩) else (⟨2, ra, [], 0, 0⟩, 2, 0) by rw [HRO.out]; unfold layO manyK; simp [])
    have HCK := Lib.hid (fun W => rCheck2 ⟨2, ra, [], 0, 0⟩ rfl W)
    obtain ⟨rr, hrr⟩ : ∃ rr, chkO ⟨2, ra, [], 0, 0⟩ = rr := ⟨_, rfl⟩
    rw [hrr] at HCK HRO
    unfold OV.v sv at HCK
    dsimp only at HCK
    rw [HQ1.out] at HCK
    clear hrr
    go_wp2_with fail
    refine (HCK.out _).mono ?_
    rintro e wk ⟨rfl, hFk⟩
    have HMk := Lib.hid (HMw7.out.no hFk)
    clear o0 o1 o2 o3 o4 of z0 z1 z2 z3 z4 zf hFk HCK
    obtain ⟨o0, o1, o2, o3, o4, of⟩ := Bk.five HMk.out.o
    obtain ⟨z0, z1, z2, z3, z4, zf⟩ := Bk.five HMk.out.z
    by_cases hz : rr = 0
    · subst hz
      have HR := Lib.hid (show readO (u :: ra :: r2) = (⟨2, ra, [], 0, 0⟩, 2, 0) by rw [HRO.out, if_neg (fun q => q rfl)])
      go_wp2
      refine bodyPost_ret (v := .tuple #[.agg #[.int .i64 2, .string q1, .string ⟨#[]⟩, .int .i64 0, .int .i64 0], .int .i64 2, .int .i64 0]) (by simp [results, Tryd.results27, go_sem, z0, z1, z2, z3, z4, zf]) rfl ⟨?_, ?_⟩
      · rw [HR.out]
        unfold OV.v sv
        dsimp only
        rw [HQ1.out]
        try rfl
      · repeat (refine Fr.set ?_ (.inr (by simp)) _)
        exact HMk.out.fr
    · have HR := Lib.hid (show readO (u :: ra :: r2) = (ov0, 0, rr) by rw [HRO.out, if_pos hz])
      have e6 : (rr != 0) = true := by rw [bne_iff_ne]; exact hz
      go_wp2
      refine bodyPost_ret (v := .tuple #[.agg #[.int .i64 0, .string ⟨#[]⟩, .string ⟨#[]⟩, .int .i64 0, .int .i64 0], .int .i64 0, .int .i64 rr]) (by simp [results, Tryd.results27, go_sem, z0, z1, z2, z3, z4, zf]) rfl ⟨by rw [HR.out]; rfl, ?_⟩
      repeat (refine Fr.set ?_ (.inr (by simp)) _)
      exact HMk.out.fr
set_option maxHeartbeats 8000000 in
set_option maxRecDepth 100000 in
theorem rReadO3 (A : Option Addr) (n c : Nat) (u : List UInt8) (r : List (List UInt8)) (hk : kindK u = 3) (hl : (u :: r).length = n) (hn : n ≤ 8796093022000) (hx : ∀ x ∈ u :: r, x.length ≤ 140737488351232) (w : World) (hT : TR Any w A (u :: r)) :
    Calls Tryd.prog 27 #[.slice A n c] w (Ro w (readO (u :: r))) := by
  have HRO := Lib.hid (show readO (u :: r) = if r.length + 1 < manyK 3 then (ov0, 0, 162) else match layO 3 r with | none => (ov0, 0, 163) | some o => if chkO o ≠ 0 then (ov0, 0, chkO o) else (o, manyK 3, 0) by
    unfold readO
    dsimp only
    rw [hk]; rfl)
  have hn0 : 0 < n := by rw [← hl]; simp
  have hn0i : (0 : Int) < (n : Int) := by omega
  have hne : ((n : Int) == 0) = false := by rw [beq_eq_false_iff_ne]; omega
  obtain ⟨ad, hA, hc0⟩ := hT.at_ 0 (by simp)
  subst hA
  obtain ⟨p0, hp0⟩ : ∃ p0 : ByteArray, (⟨u.toArray⟩ : ByteArray) = p0 := ⟨_, rfl⟩
  have hc0 : w.cell? ad = some (.string p0) := by have h := hc0; rw [← hp0]; exact h
  have HKI := Lib.hid (fun g W hB => kindAt hp0 g W hB)
  rw [hk] at HKI
  have HT := Lib.hid hT
  have HL := Lib.hid hl
  have HX := Lib.hid hx
  obtain ⟨m0, hm0⟩ : ∃ m0, r.length = m0 := ⟨_, rfl⟩
  have hm0n : m0 + 1 = n := by rw [← hl, ← hm0]; simp
  have HM0 := Lib.hid hm0
  obtain ⟨w1, hw1⟩ : ∃ w1, w.alloc ZO = w1 := ⟨_, rfl⟩
  have HF1 := Lib.hid (show Fr No w w1 by rw [← hw1]; exact (Fr.refl _ _).alloc _)
  have HZ1 := Lib.hid (show Bk w1 w.heap.size 44 [.int .i64 0, .string ⟨#[]⟩, .string ⟨#[]⟩, .int .i64 0, .int .i64 0] by rw [← hw1]; exact Bk.new w 44 [.int .i64 0, .string ⟨#[]⟩, .string ⟨#[]⟩, .int .i64 0, .int .i64 0])
  have ca0 := keepC HF1.out hc0 id
  have HW1 := Lib.hid (show w.alloc (.cells #[.int .i64 0, .string ⟨#[]⟩, .string ⟨#[]⟩, .int .i64 0, .int .i64 0] 44 (0, 0)) = w1 from hw1)
  clear hk hT hl hx hp0 hm0 hw1 hc0
  go_enter Tryd.func27, Tryd.ntmps27
  go_upto_region 3 with (fail)
  rw [HW1.out]
  go_region_law (first | (go_simp; go_at_call 40; refine (rKinds _).mono ?_; rintro e w3 ⟨g3, rfl, hB3, hF3⟩; have hF3 : Fr No w1 w3 := ((Fr.refl No _).drew).then_ hF3; have cb0 := keepC hF3 ca0 id) | (go_simp; go_at_call 37; refine (HKI.out g3 _ hB3).mono ?_; rintro e w4 ⟨rfl, hF4⟩))
  all_goals
    have HF4 := Lib.hid ((HF1.out.then_ hF3).then_ hF4)
    have HZ4 := Lib.hid ((HZ1.out.fr hF3 id).fr hF4 id)
    clear hF3 hF4 hB3 cb0 ca0 HKI HW1 HZ1 HF1
    obtain ⟨z0, z1, z2, z3, z4, zf⟩ := Bk.five HZ4.out
    by_cases hfew : m0 < 2
    · have e1 : decide ((n : Int) < 3) = true := decide_eq_true (by omega)
      have e1' : decide (n < 3) = true := decide_eq_true (by omega)
      have HR := Lib.hid (show readO (u :: r) = (ov0, 0, 162) by rw [HRO.out, if_pos (by have := HM0.out; unfold manyK; simp; try omega)])
      go_wp2
      refine bodyPost_ret (v := .tuple #[.agg #[.int .i64 0, .string ⟨#[]⟩, .string ⟨#[]⟩, .int .i64 0, .int .i64 0], .int .i64 0, .int .i64 162]) (by simp [results, Tryd.results27, go_sem, z0, z1, z2, z3, z4, zf]) rfl ⟨by rw [HR.out]; rfl, ?_⟩
      repeat (refine Fr.set ?_ (.inr (by simp)) _)
      exact HF4.out
    have e1 : decide ((n : Int) < 3) = false := decide_eq_false (by omega)
    have e1' : decide (n < 3) = false := decide_eq_false (by omega)
    have HRO := Lib.hid (show readO (u :: r) = match layO 3 r with | none => (ov0, 0, 163) | some o => if chkO o ≠ 0 then (ov0, 0, chkO o) else (o, manyK 3, 0) by rw [HRO.out, if_neg (by have := HM0.out; unfold manyK; simp; try omega)])
    obtain ⟨ra, rb, r2, rfl⟩ : ∃ ra rb r2, r = ra :: rb :: r2 := by
      have hm := HM0.out
      match r, hm with
      | ra :: rb :: r2, _ => exact ⟨ra, rb, r2, rfl⟩
      | [], hm => simp at hm; omega
      | [ra], hm => simp at hm; omega
    obtain ⟨q1, hq1⟩ : ∃ q : ByteArray, (⟨ra.toArray⟩ : ByteArray) = q := ⟨_, rfl⟩
    have HQ1 := Lib.hid hq1
    have h1n : (1 : Int) < (n : Int) := by omega
    have h1n' : 1 < n := by omega
    have HX1 := Lib.hid (HX.out ra (by simp))
    clear hq1
    obtain ⟨q2, hq2⟩ : ∃ q : ByteArray, (⟨rb.toArray⟩ : ByteArray) = q := ⟨_, rfl⟩
    have HQ2 := Lib.hid hq2
    have h2n : (2 : Int) < (n : Int) := by omega
    have h2n' : 2 < n := by omega
    have HX2 := Lib.hid (HX.out rb (by simp))
    clear hq2
    have h4s : w.heap.size < w4.heap.size := HZ4.out.lt
    obtain ⟨w5, hw5⟩ : ∃ w5, w4.alloc (.cells #[.int .i64 3, .string ⟨#[]⟩, .string ⟨#[]⟩, .int .i64 0, .int .i64 0] 44 (0, 0)) = w5 := ⟨_, rfl⟩
    obtain ⟨bo, hbo⟩ : ∃ bo, w4.heap.size = bo := ⟨_, rfl⟩
    have HM5 := Lib.hid (show MidO w w5 bo 3 ⟨#[]⟩ ⟨#[]⟩ 0 0 by
      rw [← hw5, ← hbo]
      exact ⟨HZ4.out.alloc _, Bk.new w4 44 [.int .i64 3, .string ⟨#[]⟩, .string ⟨#[]⟩, .int .i64 0, .int .i64 0], HF4.out.alloc _, h4s⟩)
    have HW5 := Lib.hid hw5
    have HBO := Lib.hid hbo
    clear hw5 hbo h4s z0 z1 z2 z3 z4 zf
    go_upto_region 16 with (fail)
    rw [HW5.out, HBO.out]
    clear HW5 HBO
    obtain ⟨o0, o1, o2, o3, o4, of⟩ := Bk.five HM5.out.o
    obtain ⟨z0, z1, z2, z3, z4, zf⟩ := Bk.five HM5.out.z
    have c1 := TR.here HT.out HM5.out.fr (j := 1) (by simp) (by omega) HQ1.out
    go_upto_region 18 with (fail)
    have HMw7 := Lib.hid (HM5.out.set1 q1)
    generalize w5.setCell ⟨bo, 1, none⟩ (.string q1) = w7 at *
    clear o0 o1 o2 o3 o4 of z0 z1 z2 z3 z4 zf c1
    obtain ⟨o0, o1, o2, o3, o4, of⟩ := Bk.five HMw7.out.o
    obtain ⟨z0, z1, z2, z3, z4, zf⟩ := Bk.five HMw7.out.z
    have c2 := TR.here HT.out HMw7.out.fr (j := 2) (by simp) (by omega) HQ2.out
    go_upto_region 20 with (fail)
    have HMw9 := Lib.hid (HMw7.out.set2 q2)
    generalize w7.setCell ⟨bo, 2, none⟩ (.string q2) = w9 at *
    clear o0 o1 o2 o3 o4 of z0 z1 z2 z3 z4 zf c2
    obtain ⟨o0, o1, o2, o3, o4, of⟩ := Bk.five HMw9.out.o
    obtain ⟨z0, z1, z2, z3, z4, zf⟩ := Bk.five HMw9.out.z
    have HRO := Lib.hid (show readO (u :: ra :: rb :: r2) = if chkO ⟨3, ra, rb, 0, 0⟩ ≠ 0 then (ov0, 0, chkO ⟨3, ra, rb, 0, 0⟩) else (⟨3, ra, rb, 0, 0⟩, 3, 0) by rw [HRO.out]; unfold layO manyK; simp [])
    have HCK := Lib.hid (fun W => rCheck3 ⟨3, ra, rb, 0, 0⟩ rfl W)
    obtain ⟨rr, hrr⟩ : ∃ rr, chkO ⟨3, ra, rb, 0, 0⟩ = rr := ⟨_, rfl⟩
    rw [hrr] at HCK HRO
    unfold OV.v sv at HCK
    dsimp only at HCK
    rw [HQ1.out] at HCK
    rw [HQ2.out] at HCK
    clear hrr
    go_wp2_with fail
    refine (HCK.out _).mono ?_
    rintro e wk ⟨rfl, hFk⟩
    have HMk := Lib.hid (HMw9.out.no hFk)
    clear o0 o1 o2 o3 o4 of z0 z1 z2 z3 z4 zf hFk HCK
    obtain ⟨o0, o1, o2, o3, o4, of⟩ := Bk.five HMk.out.o
    obtain ⟨z0, z1, z2, z3, z4, zf⟩ := Bk.five HMk.out.z
    by_cases hz : rr = 0
    · subst hz
      have HR := Lib.hid (show readO (u :: ra :: rb :: r2) = (⟨3, ra, rb, 0, 0⟩, 3, 0) by rw [HRO.out, if_neg (fun q => q rfl)])
      go_wp2
      refine bodyPost_ret (v := .tuple #[.agg #[.int .i64 3, .string q1, .string q2, .int .i64 0, .int .i64 0], .int .i64 3, .int .i64 0]) (by simp [results, Tryd.results27, go_sem, z0, z1, z2, z3, z4, zf]) rfl ⟨?_, ?_⟩
      · rw [HR.out]
        unfold OV.v sv
        dsimp only
        rw [HQ1.out]; rw [HQ2.out]
        try rfl
      · repeat (refine Fr.set ?_ (.inr (by simp)) _)
        exact HMk.out.fr
    · have HR := Lib.hid (show readO (u :: ra :: rb :: r2) = (ov0, 0, rr) by rw [HRO.out, if_pos hz])
      have e6 : (rr != 0) = true := by rw [bne_iff_ne]; exact hz
      go_wp2
      refine bodyPost_ret (v := .tuple #[.agg #[.int .i64 0, .string ⟨#[]⟩, .string ⟨#[]⟩, .int .i64 0, .int .i64 0], .int .i64 0, .int .i64 rr]) (by simp [results, Tryd.results27, go_sem, z0, z1, z2, z3, z4, zf]) rfl ⟨by rw [HR.out]; rfl, ?_⟩
      repeat (refine Fr.set ?_ (.inr (by simp)) _)
      exact HMk.out.fr
set_option maxHeartbeats 8000000 in
set_option maxRecDepth 100000 in
theorem rReadO4 (A : Option Addr) (n c : Nat) (u : List UInt8) (r : List (List UInt8)) (hk : kindK u = 4) (hl : (u :: r).length = n) (hn : n ≤ 8796093022000) (hx : ∀ x ∈ u :: r, x.length ≤ 140737488351232) (w : World) (hT : TR Any w A (u :: r)) :
    Calls Tryd.prog 27 #[.slice A n c] w (Ro w (readO (u :: r))) := by
  have HRO := Lib.hid (show readO (u :: r) = if r.length + 1 < manyK 4 then (ov0, 0, 162) else match layO 4 r with | none => (ov0, 0, 163) | some o => if chkO o ≠ 0 then (ov0, 0, chkO o) else (o, manyK 4, 0) by
    unfold readO
    dsimp only
    rw [hk]; rfl)
  have hn0 : 0 < n := by rw [← hl]; simp
  have hn0i : (0 : Int) < (n : Int) := by omega
  have hne : ((n : Int) == 0) = false := by rw [beq_eq_false_iff_ne]; omega
  obtain ⟨ad, hA, hc0⟩ := hT.at_ 0 (by simp)
  subst hA
  obtain ⟨p0, hp0⟩ : ∃ p0 : ByteArray, (⟨u.toArray⟩ : ByteArray) = p0 := ⟨_, rfl⟩
  have hc0 : w.cell? ad = some (.string p0) := by have h := hc0; rw [← hp0]; exact h
  have HKI := Lib.hid (fun g W hB => kindAt hp0 g W hB)
  rw [hk] at HKI
  have HT := Lib.hid hT
  have HL := Lib.hid hl
  have HX := Lib.hid hx
  obtain ⟨m0, hm0⟩ : ∃ m0, r.length = m0 := ⟨_, rfl⟩
  have hm0n : m0 + 1 = n := by rw [← hl, ← hm0]; simp
  have HM0 := Lib.hid hm0
  obtain ⟨w1, hw1⟩ : ∃ w1, w.alloc ZO = w1 := ⟨_, rfl⟩
  have HF1 := Lib.hid (show Fr No w w1 by rw [← hw1]; exact (Fr.refl _ _).alloc _)
  have HZ1 := Lib.hid (show Bk w1 w.heap.size 44 [.int .i64 0, .string ⟨#[]⟩, .string ⟨#[]⟩, .int .i64 0, .int .i64 0] by rw [← hw1]; exact Bk.new w 44 [.int .i64 0, .string ⟨#[]⟩, .string ⟨#[]⟩, .int .i64 0, .int .i64 0])
  have ca0 := keepC HF1.out hc0 id
  have HW1 := Lib.hid (show w.alloc (.cells #[.int .i64 0, .string ⟨#[]⟩, .string ⟨#[]⟩, .int .i64 0, .int .i64 0] 44 (0, 0)) = w1 from hw1)
  clear hk hT hl hx hp0 hm0 hw1 hc0
  go_enter Tryd.func27, Tryd.ntmps27
  go_upto_region 3 with (fail)
  rw [HW1.out]
  go_region_law (first | (go_simp; go_at_call 40; refine (rKinds _).mono ?_; rintro e w3 ⟨g3, rfl, hB3, hF3⟩; have hF3 : Fr No w1 w3 := ((Fr.refl No _).drew).then_ hF3; have cb0 := keepC hF3 ca0 id) | (go_simp; go_at_call 37; refine (HKI.out g3 _ hB3).mono ?_; rintro e w4 ⟨rfl, hF4⟩))
  all_goals
    have HF4 := Lib.hid ((HF1.out.then_ hF3).then_ hF4)
    have HZ4 := Lib.hid ((HZ1.out.fr hF3 id).fr hF4 id)
    clear hF3 hF4 hB3 cb0 ca0 HKI HW1 HZ1 HF1
    obtain ⟨z0, z1, z2, z3, z4, zf⟩ := Bk.five HZ4.out
    by_cases hfew : m0 < 2
    · have e1 : decide ((n : Int) < 3) = true := decide_eq_true (by omega)
      have e1' : decide (n < 3) = true := decide_eq_true (by omega)
      have HR := Lib.hid (show readO (u :: r) = (ov0, 0, 162) by rw [HRO.out, if_pos (by have := HM0.out; unfold manyK; simp; try omega)])
      go_wp2
      refine bodyPost_ret (v := .tuple #[.agg #[.int .i64 0, .string ⟨#[]⟩, .string ⟨#[]⟩, .int .i64 0, .int .i64 0], .int .i64 0, .int .i64 162]) (by simp [results, Tryd.results27, go_sem, z0, z1, z2, z3, z4, zf]) rfl ⟨by rw [HR.out]; rfl, ?_⟩
      repeat (refine Fr.set ?_ (.inr (by simp)) _)
      exact HF4.out
    have e1 : decide ((n : Int) < 3) = false := decide_eq_false (by omega)
    have e1' : decide (n < 3) = false := decide_eq_false (by omega)
    have HRO := Lib.hid (show readO (u :: r) = match layO 4 r with | none => (ov0, 0, 163) | some o => if chkO o ≠ 0 then (ov0, 0, chkO o) else (o, manyK 4, 0) by rw [HRO.out, if_neg (by have := HM0.out; unfold manyK; simp; try omega)])
    obtain ⟨ra, rb, r2, rfl⟩ : ∃ ra rb r2, r = ra :: rb :: r2 := by
      have hm := HM0.out
      match r, hm with
      | ra :: rb :: r2, _ => exact ⟨ra, rb, r2, rfl⟩
      | [], hm => simp at hm; omega
      | [ra], hm => simp at hm; omega
    obtain ⟨q1, hq1⟩ : ∃ q : ByteArray, (⟨ra.toArray⟩ : ByteArray) = q := ⟨_, rfl⟩
    have HQ1 := Lib.hid hq1
    have h1n : (1 : Int) < (n : Int) := by omega
    have h1n' : 1 < n := by omega
    have HX1 := Lib.hid (HX.out ra (by simp))
    clear hq1
    obtain ⟨q2, hq2⟩ : ∃ q : ByteArray, (⟨rb.toArray⟩ : ByteArray) = q := ⟨_, rfl⟩
    have HQ2 := Lib.hid hq2
    have h2n : (2 : Int) < (n : Int) := by omega
    have h2n' : 2 < n := by omega
    have HX2 := Lib.hid (HX.out rb (by simp))
    clear hq2
    have h4s : w.heap.size < w4.heap.size := HZ4.out.lt
    obtain ⟨w5, hw5⟩ : ∃ w5, w4.alloc (.cells #[.int .i64 4, .string ⟨#[]⟩, .string ⟨#[]⟩, .int .i64 0, .int .i64 0] 44 (0, 0)) = w5 := ⟨_, rfl⟩
    obtain ⟨bo, hbo⟩ : ∃ bo, w4.heap.size = bo := ⟨_, rfl⟩
    have HM5 := Lib.hid (show MidO w w5 bo 4 ⟨#[]⟩ ⟨#[]⟩ 0 0 by
      rw [← hw5, ← hbo]
      exact ⟨HZ4.out.alloc _, Bk.new w4 44 [.int .i64 4, .string ⟨#[]⟩, .string ⟨#[]⟩, .int .i64 0, .int .i64 0], HF4.out.alloc _, h4s⟩)
    have HW5 := Lib.hid hw5
    have HBO := Lib.hid hbo
    clear hw5 hbo h4s z0 z1 z2 z3 z4 zf
    go_upto_region 16 with (fail)
    rw [HW5.out, HBO.out]
    clear HW5 HBO
    obtain ⟨o0, o1, o2, o3, o4, of⟩ := Bk.five HM5.out.o
    obtain ⟨z0, z1, z2, z3, z4, zf⟩ := Bk.five HM5.out.z
    have c1 := TR.here HT.out HM5.out.fr (j := 1) (by simp) (by omega) HQ1.out
    go_upto_region 18 with (fail)
    have HMw7 := Lib.hid (HM5.out.set1 q1)
    generalize w5.setCell ⟨bo, 1, none⟩ (.string q1) = w7 at *
    clear o0 o1 o2 o3 o4 of z0 z1 z2 z3 z4 zf c1
    obtain ⟨o0, o1, o2, o3, o4, of⟩ := Bk.five HMw7.out.o
    obtain ⟨z0, z1, z2, z3, z4, zf⟩ := Bk.five HMw7.out.z
    have c2 := TR.here HT.out HMw7.out.fr (j := 2) (by simp) (by omega) HQ2.out
    go_wp2_with fail
    rcases hnn2 : numL rb with _ | v2
    · have HNU := Lib.hid (rnumber_none HQ2.out HX2.out hnn2 w7)
      refine HNU.out.mono ?_
      rintro e w9c ⟨rfl, hFc⟩
      have HMc := Lib.hid (HMw7.out.no hFc)
      have HR := Lib.hid (show readO (u :: ra :: rb :: r2) = (ov0, 0, 163) by rw [HRO.out]; unfold layO; simp [hnn2])
      clear o0 o1 o2 o3 o4 of z0 z1 z2 z3 z4 zf c2
      obtain ⟨o0, o1, o2, o3, o4, of⟩ := Bk.five HMc.out.o
      obtain ⟨z0, z1, z2, z3, z4, zf⟩ := Bk.five HMc.out.z
      clear hFc
      go_wp2
      refine bodyPost_ret (v := .tuple #[.agg #[.int .i64 0, .string ⟨#[]⟩, .string ⟨#[]⟩, .int .i64 0, .int .i64 0], .int .i64 0, .int .i64 163]) (by simp [results, Tryd.results27, go_sem, z0, z1, z2, z3, z4, zf]) rfl ⟨by rw [HR.out]; rfl, ?_⟩
      repeat (refine Fr.set ?_ (.inr (by simp)) _)
      exact HMc.out.fr
    have HNU := Lib.hid (rnumber_some HQ2.out HX2.out hnn2 w7)
    have HNN2 := Lib.hid hnn2
    clear hnn2
    refine HNU.out.mono ?_
    rintro e w9c ⟨rfl, hFc⟩
    have HMc2 := Lib.hid (HMw7.out.no hFc)
    clear o0 o1 o2 o3 o4 of z0 z1 z2 z3 z4 zf c2 hFc HNU
    obtain ⟨o0, o1, o2, o3, o4, of⟩ := Bk.five HMc2.out.o
    go_upto_region 25 with (fail)
    have HMw9 := Lib.hid (HMc2.out.set3 (v2 : Int))
    generalize w9c.setCell ⟨bo, 3, none⟩ (.int .i64 (v2 : Int)) = w9 at *
    clear o0 o1 o2 o3 o4 of
    obtain ⟨o0, o1, o2, o3, o4, of⟩ := Bk.five HMw9.out.o
    obtain ⟨z0, z1, z2, z3, z4, zf⟩ := Bk.five HMw9.out.z
    have HRO := Lib.hid (show readO (u :: ra :: rb :: r2) = if chkO ⟨4, ra, [], (v2 : Int), 0⟩ ≠ 0 then (ov0, 0, chkO ⟨4, ra, [], (v2 : Int), 0⟩) else (⟨4, ra, [], (v2 : Int), 0⟩, 3, 0) by rw [HRO.out]; unfold layO manyK; simp [HNN2.out])
    have HCK := Lib.hid (fun W => rCheck4 ⟨4, ra, [], (v2 : Int), 0⟩ rfl W)
    obtain ⟨rr, hrr⟩ : ∃ rr, chkO ⟨4, ra, [], (v2 : Int), 0⟩ = rr := ⟨_, rfl⟩
    rw [hrr] at HCK HRO
    unfold OV.v sv at HCK
    dsimp only at HCK
    rw [HQ1.out] at HCK
    clear hrr
    go_wp2_with fail
    refine (HCK.out _).mono ?_
    rintro e wk ⟨rfl, hFk⟩
    have HMk := Lib.hid (HMw9.out.no hFk)
    clear o0 o1 o2 o3 o4 of z0 z1 z2 z3 z4 zf hFk HCK
    obtain ⟨o0, o1, o2, o3, o4, of⟩ := Bk.five HMk.out.o
    obtain ⟨z0, z1, z2, z3, z4, zf⟩ := Bk.five HMk.out.z
    by_cases hz : rr = 0
    · subst hz
      have HR := Lib.hid (show readO (u :: ra :: rb :: r2) = (⟨4, ra, [], (v2 : Int), 0⟩, 3, 0) by rw [HRO.out, if_neg (fun q => q rfl)])
      go_wp2
      refine bodyPost_ret (v := .tuple #[.agg #[.int .i64 4, .string q1, .string ⟨#[]⟩, .int .i64 (v2 : Int), .int .i64 0], .int .i64 3, .int .i64 0]) (by simp [results, Tryd.results27, go_sem, z0, z1, z2, z3, z4, zf]) rfl ⟨?_, ?_⟩
      · rw [HR.out]
        unfold OV.v sv
        dsimp only
        rw [HQ1.out]
        try rfl
      · repeat (refine Fr.set ?_ (.inr (by simp)) _)
        exact HMk.out.fr
    · have HR := Lib.hid (show readO (u :: ra :: rb :: r2) = (ov0, 0, rr) by rw [HRO.out, if_pos hz])
      have e6 : (rr != 0) = true := by rw [bne_iff_ne]; exact hz
      go_wp2
      refine bodyPost_ret (v := .tuple #[.agg #[.int .i64 0, .string ⟨#[]⟩, .string ⟨#[]⟩, .int .i64 0, .int .i64 0], .int .i64 0, .int .i64 rr]) (by simp [results, Tryd.results27, go_sem, z0, z1, z2, z3, z4, zf]) rfl ⟨by rw [HR.out]; rfl, ?_⟩
      repeat (refine Fr.set ?_ (.inr (by simp)) _)
      exact HMk.out.fr
set_option maxHeartbeats 8000000 in
set_option maxRecDepth 100000 in
theorem rReadO5 (A : Option Addr) (n c : Nat) (u : List UInt8) (r : List (List UInt8)) (hk : kindK u = 5) (hl : (u :: r).length = n) (hn : n ≤ 8796093022000) (hx : ∀ x ∈ u :: r, x.length ≤ 140737488351232) (w : World) (hT : TR Any w A (u :: r)) :
    Calls Tryd.prog 27 #[.slice A n c] w (Ro w (readO (u :: r))) := by
  have HRO := Lib.hid (show readO (u :: r) = if r.length + 1 < manyK 5 then (ov0, 0, 162) else match layO 5 r with | none => (ov0, 0, 163) | some o => if chkO o ≠ 0 then (ov0, 0, chkO o) else (o, manyK 5, 0) by
    unfold readO
    dsimp only
    rw [hk]; rfl)
  have hn0 : 0 < n := by rw [← hl]; simp
  have hn0i : (0 : Int) < (n : Int) := by omega
  have hne : ((n : Int) == 0) = false := by rw [beq_eq_false_iff_ne]; omega
  obtain ⟨ad, hA, hc0⟩ := hT.at_ 0 (by simp)
  subst hA
  obtain ⟨p0, hp0⟩ : ∃ p0 : ByteArray, (⟨u.toArray⟩ : ByteArray) = p0 := ⟨_, rfl⟩
  have hc0 : w.cell? ad = some (.string p0) := by have h := hc0; rw [← hp0]; exact h
  have HKI := Lib.hid (fun g W hB => kindAt hp0 g W hB)
  rw [hk] at HKI
  have HT := Lib.hid hT
  have HL := Lib.hid hl
  have HX := Lib.hid hx
  obtain ⟨m0, hm0⟩ : ∃ m0, r.length = m0 := ⟨_, rfl⟩
  have hm0n : m0 + 1 = n := by rw [← hl, ← hm0]; simp
  have HM0 := Lib.hid hm0
  obtain ⟨w1, hw1⟩ : ∃ w1, w.alloc ZO = w1 := ⟨_, rfl⟩
  have HF1 := Lib.hid (show Fr No w w1 by rw [← hw1]; exact (Fr.refl _ _).alloc _)
  have HZ1 := Lib.hid (show Bk w1 w.heap.size 44 [.int .i64 0, .string ⟨#[]⟩, .string ⟨#[]⟩, .int .i64 0, .int .i64 0] by rw [← hw1]; exact Bk.new w 44 [.int .i64 0, .string ⟨#[]⟩, .string ⟨#[]⟩, .int .i64 0, .int .i64 0])
  have ca0 := keepC HF1.out hc0 id
  have HW1 := Lib.hid (show w.alloc (.cells #[.int .i64 0, .string ⟨#[]⟩, .string ⟨#[]⟩, .int .i64 0, .int .i64 0] 44 (0, 0)) = w1 from hw1)
  clear hk hT hl hx hp0 hm0 hw1 hc0
  go_enter Tryd.func27, Tryd.ntmps27
  go_upto_region 3 with (fail)
  rw [HW1.out]
  go_region_law (first | (go_simp; go_at_call 40; refine (rKinds _).mono ?_; rintro e w3 ⟨g3, rfl, hB3, hF3⟩; have hF3 : Fr No w1 w3 := ((Fr.refl No _).drew).then_ hF3; have cb0 := keepC hF3 ca0 id) | (go_simp; go_at_call 37; refine (HKI.out g3 _ hB3).mono ?_; rintro e w4 ⟨rfl, hF4⟩))
  all_goals
    have HF4 := Lib.hid ((HF1.out.then_ hF3).then_ hF4)
    have HZ4 := Lib.hid ((HZ1.out.fr hF3 id).fr hF4 id)
    clear hF3 hF4 hB3 cb0 ca0 HKI HW1 HZ1 HF1
    obtain ⟨z0, z1, z2, z3, z4, zf⟩ := Bk.five HZ4.out
    by_cases hfew : m0 < 2
    · have e1 : decide ((n : Int) < 3) = true := decide_eq_true (by omega)
      have e1' : decide (n < 3) = true := decide_eq_true (by omega)
      have HR := Lib.hid (show readO (u :: r) = (ov0, 0, 162) by rw [HRO.out, if_pos (by have := HM0.out; unfold manyK; simp; try omega)])
      go_wp2
      refine bodyPost_ret (v := .tuple #[.agg #[.int .i64 0, .string ⟨#[]⟩, .string ⟨#[]⟩, .int .i64 0, .int .i64 0], .int .i64 0, .int .i64 162]) (by simp [results, Tryd.results27, go_sem, z0, z1, z2, z3, z4, zf]) rfl ⟨by rw [HR.out]; rfl, ?_⟩
      repeat (refine Fr.set ?_ (.inr (by simp)) _)
      exact HF4.out
    have e1 : decide ((n : Int) < 3) = false := decide_eq_false (by omega)
    have e1' : decide (n < 3) = false := decide_eq_false (by omega)
    have HRO := Lib.hid (show readO (u :: r) = match layO 5 r with | none => (ov0, 0, 163) | some o => if chkO o ≠ 0 then (ov0, 0, chkO o) else (o, manyK 5, 0) by rw [HRO.out, if_neg (by have := HM0.out; unfold manyK; simp; try omega)])
    obtain ⟨ra, rb, r2, rfl⟩ : ∃ ra rb r2, r = ra :: rb :: r2 := by
      have hm := HM0.out
      match r, hm with
      | ra :: rb :: r2, _ => exact ⟨ra, rb, r2, rfl⟩
      | [], hm => simp at hm; omega
      | [ra], hm => simp at hm; omega
    obtain ⟨q1, hq1⟩ : ∃ q : ByteArray, (⟨ra.toArray⟩ : ByteArray) = q := ⟨_, rfl⟩
    have HQ1 := Lib.hid hq1
    have h1n : (1 : Int) < (n : Int) := by omega
    have h1n' : 1 < n := by omega
    have HX1 := Lib.hid (HX.out ra (by simp))
    clear hq1
    obtain ⟨q2, hq2⟩ : ∃ q : ByteArray, (⟨rb.toArray⟩ : ByteArray) = q := ⟨_, rfl⟩
    have HQ2 := Lib.hid hq2
    have h2n : (2 : Int) < (n : Int) := by omega
    have h2n' : 2 < n := by omega
    have HX2 := Lib.hid (HX.out rb (by simp))
    clear hq2
    have h4s : w.heap.size < w4.heap.size := HZ4.out.lt
    obtain ⟨w5, hw5⟩ : ∃ w5, w4.alloc (.cells #[.int .i64 5, .string ⟨#[]⟩, .string ⟨#[]⟩, .int .i64 0, .int .i64 0] 44 (0, 0)) = w5 := ⟨_, rfl⟩
    obtain ⟨bo, hbo⟩ : ∃ bo, w4.heap.size = bo := ⟨_, rfl⟩
    have HM5 := Lib.hid (show MidO w w5 bo 5 ⟨#[]⟩ ⟨#[]⟩ 0 0 by
      rw [← hw5, ← hbo]
      exact ⟨HZ4.out.alloc _, Bk.new w4 44 [.int .i64 5, .string ⟨#[]⟩, .string ⟨#[]⟩, .int .i64 0, .int .i64 0], HF4.out.alloc _, h4s⟩)
    have HW5 := Lib.hid hw5
    have HBO := Lib.hid hbo
    clear hw5 hbo h4s z0 z1 z2 z3 z4 zf
    go_upto_region 16 with (fail)
    rw [HW5.out, HBO.out]
    clear HW5 HBO
    obtain ⟨o0, o1, o2, o3, o4, of⟩ := Bk.five HM5.out.o
    obtain ⟨z0, z1, z2, z3, z4, zf⟩ := Bk.five HM5.out.z
    have c1 := TR.here HT.out HM5.out.fr (j := 1) (by simp) (by omega) HQ1.out
    go_upto_region 18 with (fail)
    have HMw7 := Lib.hid (HM5.out.set1 q1)
    generalize w5.setCell ⟨bo, 1, none⟩ (.string q1) = w7 at *
    clear o0 o1 o2 o3 o4 of z0 z1 z2 z3 z4 zf c1
    obtain ⟨o0, o1, o2, o3, o4, of⟩ := Bk.five HMw7.out.o
    obtain ⟨z0, z1, z2, z3, z4, zf⟩ := Bk.five HMw7.out.z
    have c2 := TR.here HT.out HMw7.out.fr (j := 2) (by simp) (by omega) HQ2.out
    go_upto_region 20 with (fail)
    have HMw9 := Lib.hid (HMw7.out.set2 q2)
    generalize w7.setCell ⟨bo, 2, none⟩ (.string q2) = w9 at *
    clear o0 o1 o2 o3 o4 of z0 z1 z2 z3 z4 zf c2
    obtain ⟨o0, o1, o2, o3, o4, of⟩ := Bk.five HMw9.out.o
    obtain ⟨z0, z1, z2, z3, z4, zf⟩ := Bk.five HMw9.out.z
    have HRO := Lib.hid (show readO (u :: ra :: rb :: r2) = if chkO ⟨5, ra, rb, 0, 0⟩ ≠ 0 then (ov0, 0, chkO ⟨5, ra, rb, 0, 0⟩) else (⟨5, ra, rb, 0, 0⟩, 3, 0) by rw [HRO.out]; unfold layO manyK; simp [])
    have HCK := Lib.hid (fun W => rCheck5 ⟨5, ra, rb, 0, 0⟩ rfl W)
    obtain ⟨rr, hrr⟩ : ∃ rr, chkO ⟨5, ra, rb, 0, 0⟩ = rr := ⟨_, rfl⟩
    rw [hrr] at HCK HRO
    unfold OV.v sv at HCK
    dsimp only at HCK
    rw [HQ1.out] at HCK
    rw [HQ2.out] at HCK
    clear hrr
    go_wp2_with fail
    refine (HCK.out _).mono ?_
    rintro e wk ⟨rfl, hFk⟩
    have HMk := Lib.hid (HMw9.out.no hFk)
    clear o0 o1 o2 o3 o4 of z0 z1 z2 z3 z4 zf hFk HCK
    obtain ⟨o0, o1, o2, o3, o4, of⟩ := Bk.five HMk.out.o
    obtain ⟨z0, z1, z2, z3, z4, zf⟩ := Bk.five HMk.out.z
    by_cases hz : rr = 0
    · subst hz
      have HR := Lib.hid (show readO (u :: ra :: rb :: r2) = (⟨5, ra, rb, 0, 0⟩, 3, 0) by rw [HRO.out, if_neg (fun q => q rfl)])
      go_wp2
      refine bodyPost_ret (v := .tuple #[.agg #[.int .i64 5, .string q1, .string q2, .int .i64 0, .int .i64 0], .int .i64 3, .int .i64 0]) (by simp [results, Tryd.results27, go_sem, z0, z1, z2, z3, z4, zf]) rfl ⟨?_, ?_⟩
      · rw [HR.out]
        unfold OV.v sv
        dsimp only
        rw [HQ1.out]; rw [HQ2.out]
        try rfl
      · repeat (refine Fr.set ?_ (.inr (by simp)) _)
        exact HMk.out.fr
    · have HR := Lib.hid (show readO (u :: ra :: rb :: r2) = (ov0, 0, rr) by rw [HRO.out, if_pos hz])
      have e6 : (rr != 0) = true := by rw [bne_iff_ne]; exact hz
      go_wp2
      refine bodyPost_ret (v := .tuple #[.agg #[.int .i64 0, .string ⟨#[]⟩, .string ⟨#[]⟩, .int .i64 0, .int .i64 0], .int .i64 0, .int .i64 rr]) (by simp [results, Tryd.results27, go_sem, z0, z1, z2, z3, z4, zf]) rfl ⟨by rw [HR.out]; rfl, ?_⟩
      repeat (refine Fr.set ?_ (.inr (by simp)) _)
      exact HMk.out.fr
set_option maxHeartbeats 8000000 in
set_option maxRecDepth 100000 in
theorem rReadO6 (A : Option Addr) (n c : Nat) (u : List UInt8) (r : List (List UInt8)) (hk : kindK u = 6) (hl : (u :: r).length = n) (hn : n ≤ 8796093022000) (hx : ∀ x ∈ u :: r, x.length ≤ 140737488351232) (w : World) (hT : TR Any w A (u :: r)) :
    Calls Tryd.prog 27 #[.slice A n c] w (Ro w (readO (u :: r))) := by
  have HRO := Lib.hid (show readO (u :: r) = if r.length + 1 < manyK 6 then (ov0, 0, 162) else match layO 6 r with | none => (ov0, 0, 163) | some o => if chkO o ≠ 0 then (ov0, 0, chkO o) else (o, manyK 6, 0) by
    unfold readO
    dsimp only
    rw [hk]; rfl)
  have hn0 : 0 < n := by rw [← hl]; simp
  have hn0i : (0 : Int) < (n : Int) := by omega
  have hne : ((n : Int) == 0) = false := by rw [beq_eq_false_iff_ne]; omega
  obtain ⟨ad, hA, hc0⟩ := hT.at_ 0 (by simp)
  subst hA
  obtain ⟨p0, hp0⟩ : ∃ p0 : ByteArray, (⟨u.toArray⟩ : ByteArray) = p0 := ⟨_, rfl⟩
  have hc0 : w.cell? ad = some (.string p0) := by have h := hc0; rw [← hp0]; exact h
  have HKI := Lib.hid (fun g W hB => kindAt hp0 g W hB)
  rw [hk] at HKI
  have HT := Lib.hid hT
  have HL := Lib.hid hl
  have HX := Lib.hid hx
  obtain ⟨m0, hm0⟩ : ∃ m0, r.length = m0 := ⟨_, rfl⟩
  have hm0n : m0 + 1 = n := by rw [← hl, ← hm0]; simp
  have HM0 := Lib.hid hm0
  obtain ⟨w1, hw1⟩ : ∃ w1, w.alloc ZO = w1 := ⟨_, rfl⟩
  have HF1 := Lib.hid (show Fr No w w1 by rw [← hw1]; exact (Fr.refl _ _).alloc _)
  have HZ1 := Lib.hid (show Bk w1 w.heap.size 44 [.int .i64 0, .string ⟨#[]⟩, .string ⟨#[]⟩, .int .i64 0, .int .i64 0] by rw [← hw1]; exact Bk.new w 44 [.int .i64 0, .string ⟨#[]⟩, .string ⟨#[]⟩, .int .i64 0, .int .i64 0])
  have ca0 := keepC HF1.out hc0 id
  have HW1 := Lib.hid (show w.alloc (.cells #[.int .i64 0, .string ⟨#[]⟩, .string ⟨#[]⟩, .int .i64 0, .int .i64 0] 44 (0, 0)) = w1 from hw1)
  clear hk hT hl hx hp0 hm0 hw1 hc0
  go_enter Tryd.func27, Tryd.ntmps27
  go_upto_region 3 with (fail)
  rw [HW1.out]
  go_region_law (first | (go_simp; go_at_call 40; refine (rKinds _).mono ?_; rintro e w3 ⟨g3, rfl, hB3, hF3⟩; have hF3 : Fr No w1 w3 := ((Fr.refl No _).drew).then_ hF3; have cb0 := keepC hF3 ca0 id) | (go_simp; go_at_call 37; refine (HKI.out g3 _ hB3).mono ?_; rintro e w4 ⟨rfl, hF4⟩))
  all_goals
    have HF4 := Lib.hid ((HF1.out.then_ hF3).then_ hF4)
    have HZ4 := Lib.hid ((HZ1.out.fr hF3 id).fr hF4 id)
    clear hF3 hF4 hB3 cb0 ca0 HKI HW1 HZ1 HF1
    obtain ⟨z0, z1, z2, z3, z4, zf⟩ := Bk.five HZ4.out
    by_cases hfew : m0 < 3
    · have e1 : decide ((n : Int) < 4) = true := decide_eq_true (by omega)
      have e1' : decide (n < 4) = true := decide_eq_true (by omega)
      have HR := Lib.hid (show readO (u :: r) = (ov0, 0, 162) by rw [HRO.out, if_pos (by have := HM0.out; unfold manyK; simp; try omega)])
      go_wp2
      refine bodyPost_ret (v := .tuple #[.agg #[.int .i64 0, .string ⟨#[]⟩, .string ⟨#[]⟩, .int .i64 0, .int .i64 0], .int .i64 0, .int .i64 162]) (by simp [results, Tryd.results27, go_sem, z0, z1, z2, z3, z4, zf]) rfl ⟨by rw [HR.out]; rfl, ?_⟩
      repeat (refine Fr.set ?_ (.inr (by simp)) _)
      exact HF4.out
    have e1 : decide ((n : Int) < 4) = false := decide_eq_false (by omega)
    have e1' : decide (n < 4) = false := decide_eq_false (by omega)
    have HRO := Lib.hid (show readO (u :: r) = match layO 6 r with | none => (ov0, 0, 163) | some o => if chkO o ≠ 0 then (ov0, 0, chkO o) else (o, manyK 6, 0) by rw [HRO.out, if_neg (by have := HM0.out; unfold manyK; simp; try omega)])
    obtain ⟨ra, rb, rc, r2, rfl⟩ : ∃ ra rb rc r2, r = ra :: rb :: rc :: r2 := by
      have hm := HM0.out
      match r, hm with
      | ra :: rb :: rc :: r2, _ => exact ⟨ra, rb, rc, r2, rfl⟩
      | [], hm => simp at hm; omega
      | [ra], hm => simp at hm; omega
      | [ra, rb], hm => simp at hm; omega
    obtain ⟨q1, hq1⟩ : ∃ q : ByteArray, (⟨ra.toArray⟩ : ByteArray) = q := ⟨_, rfl⟩
    have HQ1 := Lib.hid hq1
    have h1n : (1 : Int) < (n : Int) := by omega
    have h1n' : 1 < n := by omega
    have HX1 := Lib.hid (HX.out ra (by simp))
    clear hq1
    obtain ⟨q2, hq2⟩ : ∃ q : ByteArray, (⟨rb.toArray⟩ : ByteArray) = q := ⟨_, rfl⟩
    have HQ2 := Lib.hid hq2
    have h2n : (2 : Int) < (n : Int) := by omega
    have h2n' : 2 < n := by omega
    have HX2 := Lib.hid (HX.out rb (by simp))
    clear hq2
    obtain ⟨q3, hq3⟩ : ∃ q : ByteArray, (⟨rc.toArray⟩ : ByteArray) = q := ⟨_, rfl⟩
    have HQ3 := Lib.hid hq3
    have h3n : (3 : Int) < (n : Int) := by omega
    have h3n' : 3 < n := by omega
    have HX3 := Lib.hid (HX.out rc (by simp))
    clear hq3
    have h4s : w.heap.size < w4.heap.size := HZ4.out.lt
    obtain ⟨w5, hw5⟩ : ∃ w5, w4.alloc (.cells #[.int .i64 6, .string ⟨#[]⟩, .string ⟨#[]⟩, .int .i64 0, .int .i64 0] 44 (0, 0)) = w5 := ⟨_, rfl⟩
    obtain ⟨bo, hbo⟩ : ∃ bo, w4.heap.size = bo := ⟨_, rfl⟩
    have HM5 := Lib.hid (show MidO w w5 bo 6 ⟨#[]⟩ ⟨#[]⟩ 0 0 by
      rw [← hw5, ← hbo]
      exact ⟨HZ4.out.alloc _, Bk.new w4 44 [.int .i64 6, .string ⟨#[]⟩, .string ⟨#[]⟩, .int .i64 0, .int .i64 0], HF4.out.alloc _, h4s⟩)
    have HW5 := Lib.hid hw5
    have HBO := Lib.hid hbo
    clear hw5 hbo h4s z0 z1 z2 z3 z4 zf
    go_upto_region 16 with (fail)
    rw [HW5.out, HBO.out]
    clear HW5 HBO
    obtain ⟨o0, o1, o2, o3, o4, of⟩ := Bk.five HM5.out.o
    obtain ⟨z0, z1, z2, z3, z4, zf⟩ := Bk.five HM5.out.z
    have c1 := TR.here HT.out HM5.out.fr (j := 1) (by simp) (by omega) HQ1.out
    go_upto_region 18 with (fail)
    have HMw7 := Lib.hid (HM5.out.set1 q1)
    generalize w5.setCell ⟨bo, 1, none⟩ (.string q1) = w7 at *
    clear o0 o1 o2 o3 o4 of z0 z1 z2 z3 z4 zf c1
    obtain ⟨o0, o1, o2, o3, o4, of⟩ := Bk.five HMw7.out.o
    obtain ⟨z0, z1, z2, z3, z4, zf⟩ := Bk.five HMw7.out.z
    have c2 := TR.here HT.out HMw7.out.fr (j := 2) (by simp) (by omega) HQ2.out
    go_wp2_with fail
    rcases hnn2 : numL rb with _ | v2
    · have HNU := Lib.hid (rnumber_none HQ2.out HX2.out hnn2 w7)
      refine HNU.out.mono ?_
      rintro e w9c ⟨rfl, hFc⟩
      have HMc := Lib.hid (HMw7.out.no hFc)
      have HR := Lib.hid (show readO (u :: ra :: rb :: rc :: r2) = (ov0, 0, 163) by rw [HRO.out]; unfold layO; simp [hnn2])
      clear o0 o1 o2 o3 o4 of z0 z1 z2 z3 z4 zf c2
      obtain ⟨o0, o1, o2, o3, o4, of⟩ := Bk.five HMc.out.o
      obtain ⟨z0, z1, z2, z3, z4, zf⟩ := Bk.five HMc.out.z
      clear hFc
      go_wp2
      refine bodyPost_ret (v := .tuple #[.agg #[.int .i64 0, .string ⟨#[]⟩, .string ⟨#[]⟩, .int .i64 0, .int .i64 0], .int .i64 0, .int .i64 163]) (by simp [results, Tryd.results27, go_sem, z0, z1, z2, z3, z4, zf]) rfl ⟨by rw [HR.out]; rfl, ?_⟩
      repeat (refine Fr.set ?_ (.inr (by simp)) _)
      exact HMc.out.fr
    have HNU := Lib.hid (rnumber_some HQ2.out HX2.out hnn2 w7)
    have HNN2 := Lib.hid hnn2
    clear hnn2
    refine HNU.out.mono ?_
    rintro e w9c ⟨rfl, hFc⟩
    have HMc2 := Lib.hid (HMw7.out.no hFc)
    clear o0 o1 o2 o3 o4 of z0 z1 z2 z3 z4 zf c2 hFc HNU
    obtain ⟨o0, o1, o2, o3, o4, of⟩ := Bk.five HMc2.out.o
    go_upto_region 25 with (fail)
    have HMw9 := Lib.hid (HMc2.out.set3 (v2 : Int))
    generalize w9c.setCell ⟨bo, 3, none⟩ (.int .i64 (v2 : Int)) = w9 at *
    clear o0 o1 o2 o3 o4 of
    obtain ⟨o0, o1, o2, o3, o4, of⟩ := Bk.five HMw9.out.o
    obtain ⟨z0, z1, z2, z3, z4, zf⟩ := Bk.five HMw9.out.z
    have c3 := TR.here HT.out HMw9.out.fr (j := 3) (by simp) (by omega) HQ3.out
    go_wp2_with fail
    rcases hnn3 : numL rc with _ | v3
    · have HNU := Lib.hid (rnumber_none HQ3.out HX3.out hnn3 w9)
      refine HNU.out.mono ?_
      rintro e w11c ⟨rfl, hFc⟩
      have HMc := Lib.hid (HMw9.out.no hFc)
      have HR := Lib.hid (show readO (u :: ra :: rb :: rc :: r2) = (ov0, 0, 163) by rw [HRO.out]; unfold layO; simp [hnn3, HNN2.out])
      clear o0 o1 o2 o3 o4 of z0 z1 z2 z3 z4 zf c3
      obtain ⟨o0, o1, o2, o3, o4, of⟩ := Bk.five HMc.out.o
      obtain ⟨z0, z1, z2, z3, z4, zf⟩ := Bk.five HMc.out.z
      clear hFc
      go_wp2
      refine bodyPost_ret (v := .tuple #[.agg #[.int .i64 0, .string ⟨#[]⟩, .string ⟨#[]⟩, .int .i64 0, .int .i64 0], .int .i64 0, .int .i64 163]) (by simp [results, Tryd.results27, go_sem, z0, z1, z2, z3, z4, zf]) rfl ⟨by rw [HR.out]; rfl, ?_⟩
      repeat (refine Fr.set ?_ (.inr (by simp)) _)
      exact HMc.out.fr
    have HNU := Lib.hid (rnumber_some HQ3.out HX3.out hnn3 w9)
    have HNN3 := Lib.hid hnn3
    clear hnn3
    refine HNU.out.mono ?_
    rintro e w11c ⟨rfl, hFc⟩
    have HMc3 := Lib.hid (HMw9.out.no hFc)
    clear o0 o1 o2 o3 o4 of z0 z1 z2 z3 z4 zf c3 hFc HNU
    obtain ⟨o0, o1, o2, o3, o4, of⟩ := Bk.five HMc3.out.o
    go_upto_region 30 with (fail)
    have HMw11 := Lib.hid (HMc3.out.set4 (v3 : Int))
    generalize w11c.setCell ⟨bo, 4, none⟩ (.int .i64 (v3 : Int)) = w11 at *
    clear o0 o1 o2 o3 o4 of
    obtain ⟨o0, o1, o2, o3, o4, of⟩ := Bk.five HMw11.out.o
    obtain ⟨z0, z1, z2, z3, z4, zf⟩ := Bk.five HMw11.out.z
    have HRO := Lib.hid (show readO (u :: ra :: rb :: rc :: r2) = if chkO ⟨6, ra, [], (v2 : Int), (v3 : Int)⟩ ≠ 0 then (ov0, 0, chkO ⟨6, ra, [], (v2 : Int), (v3 : Int)⟩) else (⟨6, ra, [], (v2 : Int), (v3 : Int)⟩, 4, 0) by rw [HRO.out]; unfold layO manyK; simp [HNN2.out, HNN3.out])
    have HCK := Lib.hid (fun W => rCheck6 ⟨6, ra, [], (v2 : Int), (v3 : Int)⟩ rfl W)
    obtain ⟨rr, hrr⟩ : ∃ rr, chkO ⟨6, ra, [], (v2 : Int), (v3 : Int)⟩ = rr := ⟨_, rfl⟩
    rw [hrr] at HCK HRO
    unfold OV.v sv at HCK
    dsimp only at HCK
    rw [HQ1.out] at HCK
    clear hrr
    go_wp2_with fail
    refine (HCK.out _).mono ?_
    rintro e wk ⟨rfl, hFk⟩
    have HMk := Lib.hid (HMw11.out.no hFk)
    clear o0 o1 o2 o3 o4 of z0 z1 z2 z3 z4 zf hFk HCK
    obtain ⟨o0, o1, o2, o3, o4, of⟩ := Bk.five HMk.out.o
    obtain ⟨z0, z1, z2, z3, z4, zf⟩ := Bk.five HMk.out.z
    by_cases hz : rr = 0
    · subst hz
      have HR := Lib.hid (show readO (u :: ra :: rb :: rc :: r2) = (⟨6, ra, [], (v2 : Int), (v3 : Int)⟩, 4, 0) by rw [HRO.out, if_neg (fun q => q rfl)])
      go_wp2
      refine bodyPost_ret (v := .tuple #[.agg #[.int .i64 6, .string q1, .string ⟨#[]⟩, .int .i64 (v2 : Int), .int .i64 (v3 : Int)], .int .i64 4, .int .i64 0]) (by simp [results, Tryd.results27, go_sem, z0, z1, z2, z3, z4, zf]) rfl ⟨?_, ?_⟩
      · rw [HR.out]
        unfold OV.v sv
        dsimp only
        rw [HQ1.out]
        try rfl
      · repeat (refine Fr.set ?_ (.inr (by simp)) _)
        exact HMk.out.fr
    · have HR := Lib.hid (show readO (u :: ra :: rb :: rc :: r2) = (ov0, 0, rr) by rw [HRO.out, if_pos hz])
      have e6 : (rr != 0) = true := by rw [bne_iff_ne]; exact hz
      go_wp2
      refine bodyPost_ret (v := .tuple #[.agg #[.int .i64 0, .string ⟨#[]⟩, .string ⟨#[]⟩, .int .i64 0, .int .i64 0], .int .i64 0, .int .i64 rr]) (by simp [results, Tryd.results27, go_sem, z0, z1, z2, z3, z4, zf]) rfl ⟨by rw [HR.out]; rfl, ?_⟩
      repeat (refine Fr.set ?_ (.inr (by simp)) _)
      exact HMk.out.fr
set_option maxHeartbeats 8000000 in
set_option maxRecDepth 100000 in
theorem rReadO7 (A : Option Addr) (n c : Nat) (u : List UInt8) (r : List (List UInt8)) (hk : kindK u = 7) (hl : (u :: r).length = n) (hn : n ≤ 8796093022000) (hx : ∀ x ∈ u :: r, x.length ≤ 140737488351232) (w : World) (hT : TR Any w A (u :: r)) :
    Calls Tryd.prog 27 #[.slice A n c] w (Ro w (readO (u :: r))) := by
  have HRO := Lib.hid (show readO (u :: r) = if r.length + 1 < manyK 7 then (ov0, 0, 162) else match layO 7 r with | none => (ov0, 0, 163) | some o => if chkO o ≠ 0 then (ov0, 0, chkO o) else (o, manyK 7, 0) by
    unfold readO
    dsimp only
    rw [hk]; rfl)
  have hn0 : 0 < n := by rw [← hl]; simp
  have hn0i : (0 : Int) < (n : Int) := by omega
  have hne : ((n : Int) == 0) = false := by rw [beq_eq_false_iff_ne]; omega
  obtain ⟨ad, hA, hc0⟩ := hT.at_ 0 (by simp)
  subst hA
  obtain ⟨p0, hp0⟩ : ∃ p0 : ByteArray, (⟨u.toArray⟩ : ByteArray) = p0 := ⟨_, rfl⟩
  have hc0 : w.cell? ad = some (.string p0) := by have h := hc0; rw [← hp0]; exact h
  have HKI := Lib.hid (fun g W hB => kindAt hp0 g W hB)
  rw [hk] at HKI
  have HT := Lib.hid hT
  have HL := Lib.hid hl
  have HX := Lib.hid hx
  obtain ⟨m0, hm0⟩ : ∃ m0, r.length = m0 := ⟨_, rfl⟩
  have hm0n : m0 + 1 = n := by rw [← hl, ← hm0]; simp
  have HM0 := Lib.hid hm0
  obtain ⟨w1, hw1⟩ : ∃ w1, w.alloc ZO = w1 := ⟨_, rfl⟩
  have HF1 := Lib.hid (show Fr No w w1 by rw [← hw1]; exact (Fr.refl _ _).alloc _)
  have HZ1 := Lib.hid (show Bk w1 w.heap.size 44 [.int .i64 0, .string ⟨#[]⟩, .string ⟨#[]⟩, .int .i64 0, .int .i64 0] by rw [← hw1]; exact Bk.new w 44 [.int .i64 0, .string ⟨#[]⟩, .string ⟨#[]⟩, .int .i64 0, .int .i64 0])
  have ca0 := keepC HF1.out hc0 id
  have HW1 := Lib.hid (show w.alloc (.cells #[.int .i64 0, .string ⟨#[]⟩, .string ⟨#[]⟩, .int .i64 0, .int .i64 0] 44 (0, 0)) = w1 from hw1)
  clear hk hT hl hx hp0 hm0 hw1 hc0
  go_enter Tryd.func27, Tryd.ntmps27
  go_upto_region 3 with (fail)
  rw [HW1.out]
  go_region_law (first | (go_simp; go_at_call 40; refine (rKinds _).mono ?_; rintro e w3 ⟨g3, rfl, hB3, hF3⟩; have hF3 : Fr No w1 w3 := ((Fr.refl No _).drew).then_ hF3; have cb0 := keepC hF3 ca0 id) | (go_simp; go_at_call 37; refine (HKI.out g3 _ hB3).mono ?_; rintro e w4 ⟨rfl, hF4⟩))
  all_goals
    have HF4 := Lib.hid ((HF1.out.then_ hF3).then_ hF4)
    have HZ4 := Lib.hid ((HZ1.out.fr hF3 id).fr hF4 id)
    clear hF3 hF4 hB3 cb0 ca0 HKI HW1 HZ1 HF1
    obtain ⟨z0, z1, z2, z3, z4, zf⟩ := Bk.five HZ4.out
    by_cases hfew : m0 < 1
    · have e1 : decide ((n : Int) < 2) = true := decide_eq_true (by omega)
      have e1' : decide (n < 2) = true := decide_eq_true (by omega)
      have HR := Lib.hid (show readO (u :: r) = (ov0, 0, 162) by rw [HRO.out, if_pos (by have := HM0.out; unfold manyK; simp; try omega)])
      go_wp2
      refine bodyPost_ret (v := .tuple #[.agg #[.int .i64 0, .string ⟨#[]⟩, .string ⟨#[]⟩, .int .i64 0, .int .i64 0], .int .i64 0, .int .i64 162]) (by simp [results, Tryd.results27, go_sem, z0, z1, z2, z3, z4, zf]) rfl ⟨by rw [HR.out]; rfl, ?_⟩
      repeat (refine Fr.set ?_ (.inr (by simp)) _)
      exact HF4.out
    have e1 : decide ((n : Int) < 2) = false := decide_eq_false (by omega)
    have e1' : decide (n < 2) = false := decide_eq_false (by omega)
    have HRO := Lib.hid (show readO (u :: r) = match layO 7 r with | none => (ov0, 0, 163) | some o => if chkO o ≠ 0 then (ov0, 0, chkO o) else (o, manyK 7, 0) by rw [HRO.out, if_neg (by have := HM0.out; unfold manyK; simp; try omega)])
    obtain ⟨ra, r2, rfl⟩ : ∃ ra r2, r = ra :: r2 := by
      have hm := HM0.out
      match r, hm with
      | ra :: r2, _ => exact ⟨ra, r2, rfl⟩
      | [], hm => simp at hm; omega
    obtain ⟨q1, hq1⟩ : ∃ q : ByteArray, (⟨ra.toArray⟩ : ByteArray) = q := ⟨_, rfl⟩
    have HQ1 := Lib.hid hq1
    have h1n : (1 : Int) < (n : Int) := by omega
    have h1n' : 1 < n := by omega
    have HX1 := Lib.hid (HX.out ra (by simp))
    clear hq1
    have h4s : w.heap.size < w4.heap.size := HZ4.out.lt
    obtain ⟨w5, hw5⟩ : ∃ w5, w4.alloc (.cells #[.int .i64 7, .string ⟨#[]⟩, .string ⟨#[]⟩, .int .i64 0, .int .i64 0] 44 (0, 0)) = w5 := ⟨_, rfl⟩
    obtain ⟨bo, hbo⟩ : ∃ bo, w4.heap.size = bo := ⟨_, rfl⟩
    have HM5 := Lib.hid (show MidO w w5 bo 7 ⟨#[]⟩ ⟨#[]⟩ 0 0 by
      rw [← hw5, ← hbo]
      exact ⟨HZ4.out.alloc _, Bk.new w4 44 [.int .i64 7, .string ⟨#[]⟩, .string ⟨#[]⟩, .int .i64 0, .int .i64 0], HF4.out.alloc _, h4s⟩)
    have HW5 := Lib.hid hw5
    have HBO := Lib.hid hbo
    clear hw5 hbo h4s z0 z1 z2 z3 z4 zf
    go_upto_region 16 with (fail)
    rw [HW5.out, HBO.out]
    clear HW5 HBO
    obtain ⟨o0, o1, o2, o3, o4, of⟩ := Bk.five HM5.out.o
    obtain ⟨z0, z1, z2, z3, z4, zf⟩ := Bk.five HM5.out.z
    have c1 := TR.here HT.out HM5.out.fr (j := 1) (by simp) (by omega) HQ1.out
    go_upto_region 18 with (fail)
    have HMw7 := Lib.hid (HM5.out.set1 q1)
    generalize w5.setCell ⟨bo, 1, none⟩ (.string q1) = w7 at *
    clear o0 o1 o2 o3 o4 of z0 z1 z2 z3 z4 zf c1
    obtain ⟨o0, o1, o2, o3, o4, of⟩ := Bk.five HMw7.out.o
    obtain ⟨z0, z1, z2, z3, z4, zf⟩ := Bk.five HMw7.out.z
    have HRO := Lib.hid (show readO (u :: ra :: r2) = if chkO ⟨7, ra, [], 0, 0⟩ ≠ 0 then (ov0, 0, chkO ⟨7, ra, [], 0, 0⟩) else (⟨7, ra, [], 0, 0⟩, 2, 0) by rw [HRO.out]; unfold layO manyK; simp [])
    have HCK := Lib.hid (fun W => rCheck7 ⟨7, ra, [], 0, 0⟩ rfl W)
    obtain ⟨rr, hrr⟩ : ∃ rr, chkO ⟨7, ra, [], 0, 0⟩ = rr := ⟨_, rfl⟩
    rw [hrr] at HCK HRO
    unfold OV.v sv at HCK
    dsimp only at HCK
    rw [HQ1.out] at HCK
    clear hrr
    go_wp2_with fail
    refine (HCK.out _).mono ?_
    rintro e wk ⟨rfl, hFk⟩
    have HMk := Lib.hid (HMw7.out.no hFk)
    clear o0 o1 o2 o3 o4 of z0 z1 z2 z3 z4 zf hFk HCK
    obtain ⟨o0, o1, o2, o3, o4, of⟩ := Bk.five HMk.out.o
    obtain ⟨z0, z1, z2, z3, z4, zf⟩ := Bk.five HMk.out.z
    by_cases hz : rr = 0
    · subst hz
      have HR := Lib.hid (show readO (u :: ra :: r2) = (⟨7, ra, [], 0, 0⟩, 2, 0) by rw [HRO.out, if_neg (fun q => q rfl)])
      go_wp2
      refine bodyPost_ret (v := .tuple #[.agg #[.int .i64 7, .string q1, .string ⟨#[]⟩, .int .i64 0, .int .i64 0], .int .i64 2, .int .i64 0]) (by simp [results, Tryd.results27, go_sem, z0, z1, z2, z3, z4, zf]) rfl ⟨?_, ?_⟩
      · rw [HR.out]
        unfold OV.v sv
        dsimp only
        rw [HQ1.out]
        try rfl
      · repeat (refine Fr.set ?_ (.inr (by simp)) _)
        exact HMk.out.fr
    · have HR := Lib.hid (show readO (u :: ra :: r2) = (ov0, 0, rr) by rw [HRO.out, if_pos hz])
      have e6 : (rr != 0) = true := by rw [bne_iff_ne]; exact hz
      go_wp2
      refine bodyPost_ret (v := .tuple #[.agg #[.int .i64 0, .string ⟨#[]⟩, .string ⟨#[]⟩, .int .i64 0, .int .i64 0], .int .i64 0, .int .i64 rr]) (by simp [results, Tryd.results27, go_sem, z0, z1, z2, z3, z4, zf]) rfl ⟨by rw [HR.out]; rfl, ?_⟩
      repeat (refine Fr.set ?_ (.inr (by simp)) _)
      exact HMk.out.fr
set_option maxHeartbeats 8000000 in
set_option maxRecDepth 100000 in
theorem rReadO8 (A : Option Addr) (n c : Nat) (u : List UInt8) (r : List (List UInt8)) (hk : kindK u = 8) (hl : (u :: r).length = n) (hn : n ≤ 8796093022000) (hx : ∀ x ∈ u :: r, x.length ≤ 140737488351232) (w : World) (hT : TR Any w A (u :: r)) :
    Calls Tryd.prog 27 #[.slice A n c] w (Ro w (readO (u :: r))) := by
  have HRO := Lib.hid (show readO (u :: r) = if r.length + 1 < manyK 8 then (ov0, 0, 162) else match layO 8 r with | none => (ov0, 0, 163) | some o => if chkO o ≠ 0 then (ov0, 0, chkO o) else (o, manyK 8, 0) by
    unfold readO
    dsimp only
    rw [hk]; rfl)
  have hn0 : 0 < n := by rw [← hl]; simp
  have hn0i : (0 : Int) < (n : Int) := by omega
  have hne : ((n : Int) == 0) = false := by rw [beq_eq_false_iff_ne]; omega
  obtain ⟨ad, hA, hc0⟩ := hT.at_ 0 (by simp)
  subst hA
  obtain ⟨p0, hp0⟩ : ∃ p0 : ByteArray, (⟨u.toArray⟩ : ByteArray) = p0 := ⟨_, rfl⟩
  have hc0 : w.cell? ad = some (.string p0) := by have h := hc0; rw [← hp0]; exact h
  have HKI := Lib.hid (fun g W hB => kindAt hp0 g W hB)
  rw [hk] at HKI
  have HT := Lib.hid hT
  have HL := Lib.hid hl
  have HX := Lib.hid hx
  obtain ⟨m0, hm0⟩ : ∃ m0, r.length = m0 := ⟨_, rfl⟩
  have hm0n : m0 + 1 = n := by rw [← hl, ← hm0]; simp
  have HM0 := Lib.hid hm0
  obtain ⟨w1, hw1⟩ : ∃ w1, w.alloc ZO = w1 := ⟨_, rfl⟩
  have HF1 := Lib.hid (show Fr No w w1 by rw [← hw1]; exact (Fr.refl _ _).alloc _)
  have HZ1 := Lib.hid (show Bk w1 w.heap.size 44 [.int .i64 0, .string ⟨#[]⟩, .string ⟨#[]⟩, .int .i64 0, .int .i64 0] by rw [← hw1]; exact Bk.new w 44 [.int .i64 0, .string ⟨#[]⟩, .string ⟨#[]⟩, .int .i64 0, .int .i64 0])
  have ca0 := keepC HF1.out hc0 id
  have HW1 := Lib.hid (show w.alloc (.cells #[.int .i64 0, .string ⟨#[]⟩, .string ⟨#[]⟩, .int .i64 0, .int .i64 0] 44 (0, 0)) = w1 from hw1)
  clear hk hT hl hx hp0 hm0 hw1 hc0
  go_enter Tryd.func27, Tryd.ntmps27
  go_upto_region 3 with (fail)
  rw [HW1.out]
  go_region_law (first | (go_simp; go_at_call 40; refine (rKinds _).mono ?_; rintro e w3 ⟨g3, rfl, hB3, hF3⟩; have hF3 : Fr No w1 w3 := ((Fr.refl No _).drew).then_ hF3; have cb0 := keepC hF3 ca0 id) | (go_simp; go_at_call 37; refine (HKI.out g3 _ hB3).mono ?_; rintro e w4 ⟨rfl, hF4⟩))
  all_goals
    have HF4 := Lib.hid ((HF1.out.then_ hF3).then_ hF4)
    have HZ4 := Lib.hid ((HZ1.out.fr hF3 id).fr hF4 id)
    clear hF3 hF4 hB3 cb0 ca0 HKI HW1 HZ1 HF1
    obtain ⟨z0, z1, z2, z3, z4, zf⟩ := Bk.five HZ4.out
    have e1 : decide ((n : Int) < 1) = false := decide_eq_false (by omega)
    have e1' : decide (n < 1) = false := decide_eq_false (by omega)
    have HRO := Lib.hid (show readO (u :: r) = match layO 8 r with | none => (ov0, 0, 163) | some o => if chkO o ≠ 0 then (ov0, 0, chkO o) else (o, manyK 8, 0) by rw [HRO.out, if_neg (by have := HM0.out; unfold manyK; simp; try omega)])
    have h4s : w.heap.size < w4.heap.size := HZ4.out.lt
    obtain ⟨w5, hw5⟩ : ∃ w5, w4.alloc (.cells #[.int .i64 8, .string ⟨#[]⟩, .string ⟨#[]⟩, .int .i64 0, .int .i64 0] 44 (0, 0)) = w5 := ⟨_, rfl⟩
    obtain ⟨bo, hbo⟩ : ∃ bo, w4.heap.size = bo := ⟨_, rfl⟩
    have HM5 := Lib.hid (show MidO w w5 bo 8 ⟨#[]⟩ ⟨#[]⟩ 0 0 by
      rw [← hw5, ← hbo]
      exact ⟨HZ4.out.alloc _, Bk.new w4 44 [.int .i64 8, .string ⟨#[]⟩, .string ⟨#[]⟩, .int .i64 0, .int .i64 0], HF4.out.alloc _, h4s⟩)
    have HW5 := Lib.hid hw5
    have HBO := Lib.hid hbo
    clear hw5 hbo h4s z0 z1 z2 z3 z4 zf
    go_upto_region 16 with (fail)
    rw [HW5.out, HBO.out]
    clear HW5 HBO
    obtain ⟨o0, o1, o2, o3, o4, of⟩ := Bk.five HM5.out.o
    obtain ⟨z0, z1, z2, z3, z4, zf⟩ := Bk.five HM5.out.z
    have HRO := Lib.hid (show readO (u :: r) = if chkO ⟨8, [], [], 0, 0⟩ ≠ 0 then (ov0, 0, chkO ⟨8, [], [], 0, 0⟩) else (⟨8, [], [], 0, 0⟩, 1, 0) by rw [HRO.out]; rfl)
    have HCK := Lib.hid (fun W => rCheck8 ⟨8, [], [], 0, 0⟩ rfl W)
    obtain ⟨rr, hrr⟩ : ∃ rr, chkO ⟨8, [], [], 0, 0⟩ = rr := ⟨_, rfl⟩
    rw [hrr] at HCK HRO
    unfold OV.v sv at HCK
    dsimp only at HCK
    clear hrr
    go_wp2_with fail
    refine (HCK.out _).mono ?_
    rintro e wk ⟨rfl, hFk⟩
    have HMk := Lib.hid (HM5.out.no hFk)
    clear o0 o1 o2 o3 o4 of z0 z1 z2 z3 z4 zf hFk HCK
    obtain ⟨o0, o1, o2, o3, o4, of⟩ := Bk.five HMk.out.o
    obtain ⟨z0, z1, z2, z3, z4, zf⟩ := Bk.five HMk.out.z
    by_cases hz : rr = 0
    · subst hz
      have HR := Lib.hid (show readO (u :: r) = (⟨8, [], [], 0, 0⟩, 1, 0) by rw [HRO.out, if_neg (fun q => q rfl)])
      go_wp2
      refine bodyPost_ret (v := .tuple #[.agg #[.int .i64 8, .string ⟨#[]⟩, .string ⟨#[]⟩, .int .i64 0, .int .i64 0], .int .i64 1, .int .i64 0]) (by simp [results, Tryd.results27, go_sem, z0, z1, z2, z3, z4, zf]) rfl ⟨?_, ?_⟩
      · rw [HR.out]
        unfold OV.v sv
        dsimp only
        skip
        try rfl
      · repeat (refine Fr.set ?_ (.inr (by simp)) _)
        exact HMk.out.fr
    · have HR := Lib.hid (show readO (u :: r) = (ov0, 0, rr) by rw [HRO.out, if_pos hz])
      have e6 : (rr != 0) = true := by rw [bne_iff_ne]; exact hz
      go_wp2
      refine bodyPost_ret (v := .tuple #[.agg #[.int .i64 0, .string ⟨#[]⟩, .string ⟨#[]⟩, .int .i64 0, .int .i64 0], .int .i64 0, .int .i64 rr]) (by simp [results, Tryd.results27, go_sem, z0, z1, z2, z3, z4, zf]) rfl ⟨by rw [HR.out]; rfl, ?_⟩
      repeat (refine Fr.set ?_ (.inr (by simp)) _)
      exact HMk.out.fr
end Go.Proofs.YtdhlbdllidfenaaDoor.Wd
