/- Words: what ReadOp answers, kind by kind: walked (printed by a program of ours). Conditions: the tables lie as the program's text and the library lay them. -/
import Derived.Test.YtdhlbdllidfenaaDoorOpC
import Derived.Test.YtdhlbdllidfenaaDoorOpF
namespace Go.Proofs.YtdhlbdllidfenaaDoor.Wd
open Go.RowKit Go.Proofs.YtdhlbdllidfenaaDoor.Mem
open Go.Proofs.YtdhlbdllidfenaaDoor.Nu (numL numE wNumber rNumber Vs num_dec num_is)
set_option linter.unusedVariables false
set_option linter.unusedSimpArgs false
/-- what ReadOp answers -/
def Ro (w0 : World) (R : OV × Nat × Int) (e : Ending) (w' : World) : Prop := e = .returned (.tuple #[R.1.v, .int .i64 (R.2.1 : Int), .int .i64 R.2.2]) ∧ Fr No w0 w'
structure MidO (w W : World) (bo : Nat) (k : Int) (a b : ByteArray) (n m : Int) : Prop where
  z : Bk W w.heap.size 44 [.int .i64 0, .string ⟨#[]⟩, .string ⟨#[]⟩, .int .i64 0, .int .i64 0]
  o : Bk W bo 44 [.int .i64 k, .string a, .string b, .int .i64 n, .int .i64 m]
  fr : Fr No w W
  lt : w.heap.size < bo
section
variable {w W W' : World} {bo : Nat} {k n m : Int} {a b : ByteArray}
theorem MidO.no (h : MidO w W bo k a b n m) (hf : Fr No W W') : MidO w W' bo k a b n m := ⟨h.z.fr hf id, h.o.fr hf id, h.fr.then_ hf, h.lt⟩
theorem MidO.set1 (h : MidO w W bo k a b n m) (x : ByteArray) : MidO w (W.setCell ⟨bo, 1, none⟩ (.string x)) bo k x b n m := ⟨h.z.far (by show w.heap.size ≠ bo; have := h.lt; omega) _, h.o.set 1 _, h.fr.set (.inr (by show w.heap.size ≤ bo; have := h.lt; omega)) _, h.lt⟩
theorem MidO.set2 (h : MidO w W bo k a b n m) (x : ByteArray) : MidO w (W.setCell ⟨bo, 2, none⟩ (.string x)) bo k a x n m := ⟨h.z.far (by show w.heap.size ≠ bo; have := h.lt; omega) _, h.o.set 2 _, h.fr.set (.inr (by show w.heap.size ≤ bo; have := h.lt; omega)) _, h.lt⟩
theorem MidO.set3 (h : MidO w W bo k a b n m) (x : Int) : MidO w (W.setCell ⟨bo, 3, none⟩ (.int .i64 x)) bo k a b x m := ⟨h.z.far (by show w.heap.size ≠ bo; have := h.lt; omega) _, h.o.set 3 _, h.fr.set (.inr (by show w.heap.size ≤ bo; have := h.lt; omega)) _, h.lt⟩
theorem MidO.set4 (h : MidO w W bo k a b n m) (x : Int) : MidO w (W.setCell ⟨bo, 4, none⟩ (.int .i64 x)) bo k a b n x := ⟨h.z.far (by show w.heap.size ≠ bo; have := h.lt; omega) _, h.o.set 4 _, h.fr.set (.inr (by show w.heap.size ≤ bo; have := h.lt; omega)) _, h.lt⟩
end
theorem TR.here {w W : World} {ad : Addr} {l : List (List UInt8)} (h : TR Any w (some ad) l) (hf : Fr No w W) {j : Nat} (hj : j < l.length) (h0 : j ≠ 0) {q : ByteArray} (hq : (⟨l[j].toArray⟩ : ByteArray) = q) : W.cell? ⟨ad.block, ad.off + j, none⟩ = some (.string q) := by
  obtain ⟨ad', e, c⟩ := h.at_ j hj
  cases e
  have h2 := keepC hf c id
  rw [← hq]
  unfold Addr.add at h2
  rw [if_neg h0] at h2
  exact h2
def ZO : Obj := .cells #[.int .i64 0, .string ⟨#[]⟩, .string ⟨#[]⟩, .int .i64 0, .int .i64 0] 44 (0, 0)
set_option maxHeartbeats 8000000 in
set_option maxRecDepth 100000 in
theorem wReadO1 (A : Option Addr) (n c : Nat) (u : List UInt8) (r : List (List UInt8)) (hk : kindK u = 1) (hl : (u :: r).length = n) (hn : n ≤ 8796093022000) (hx : ∀ x ∈ u :: r, x.length ≤ 140737488351232) (w : World) (hT : TR Any w A (u :: r)) (hV : Vs w) (hC : Cf w) :
    Calls Tryd.prog 25 #[.slice A n c] w (Ro w (readO (u :: r))) := by
  have hz : kindZ u = 1 := by unfold kindZ; rw [hk]; rfl
  have HKO := Lib.hid (fun W (hW : Fr No w W) => wKindOf u W (hC.fr hW))
  rw [hz] at HKO
  have HRO := Lib.hid (show readO (u :: r) = if r.length + 1 < manyK 1 then (ov0, 0, 162) else match layO 1 r with | none => (ov0, 0, 163) | some o => if chkO o ≠ 0 then (ov0, 0, chkO o) else (o, manyK 1, 0) by
    unfold readO
    dsimp only
    rw [hk]; rfl)
  have hn0 : 0 < n := by rw [← hl]; simp
  have hn0i : (0 : Int) < (n : Int) := by omega
  have hne : ((n : Int) == 0) = false := by rw [beq_eq_false_iff_ne]; omega
  obtain ⟨ad, hA, hc0⟩ := hT.at_ 0 (by simp)
  subst hA
  obtain ⟨p0, hp0⟩ : ∃ p0 : ByteArray, (⟨u.toArray⟩ : ByteArray) = p0 := ⟨_, rfl⟩
  have hc0 : w.cell? ad = some (.string p0) := by have h := hc0; rw [← hp0]; exact h
  rw [hp0] at HKO
  have HT := Lib.hid hT
  have HV := Lib.hid hV
  have HC := Lib.hid hC
  have HL := Lib.hid hl
  have HX := Lib.hid hx
  have hcz := keepC ((Fr.refl No w).alloc ZO) hc0 id
  unfold ZO at hcz
  have hrl : r.length + 1 = n := by rw [← hl]; simp
  obtain ⟨m0, hm0⟩ : ∃ m0, r.length = m0 := ⟨_, rfl⟩
  have HM0 := Lib.hid hm0
  have hm0n : m0 + 1 = n := by omega
  have hw1 : IntKind.i64.wrap ((n : Int) - 1) = (m0 : Int) := by rw [IntWalk.i64_in _ (by omega)]; omega
  clear hk hz hT hV hC hl hx hp0 hm0 hrl
  go_enter Tryd.func25, Tryd.ntmps25
  go_wp2_with fail
  refine (HKO.out _ ((Fr.refl _ _).alloc _)).mono ?_
  rintro e w1 ⟨rfl, hF1⟩
  have HZ1 := Lib.hid (show Bk w1 w.heap.size 44 [.int .i64 0, .string ⟨#[]⟩, .string ⟨#[]⟩, .int .i64 0, .int .i64 0] from (Bk.new w 44 [.int .i64 0, .string ⟨#[]⟩, .string ⟨#[]⟩, .int .i64 0, .int .i64 0]).fr (S := No) hF1 id)
  have HF1 := Lib.hid (show Fr No w w1 from ((Fr.refl No w).alloc _).then_ hF1)
  have h1s : w.heap.size < w1.heap.size := HZ1.out.lt
  obtain ⟨w2, hw2⟩ : ∃ w2, w1.alloc (.cells #[.int .i64 1, .string ⟨#[]⟩, .string ⟨#[]⟩, .int .i64 0, .int .i64 0] 44 (0, 0)) = w2 := ⟨_, rfl⟩
  obtain ⟨bo, hbo⟩ : ∃ bo, w1.heap.size = bo := ⟨_, rfl⟩
  have HM2 := Lib.hid (show MidO w w2 bo 1 ⟨#[]⟩ ⟨#[]⟩ 0 0 by
    rw [← hw2, ← hbo]
    exact ⟨HZ1.out.alloc _, Bk.new w1 44 [.int .i64 1, .string ⟨#[]⟩, .string ⟨#[]⟩, .int .i64 0, .int .i64 0], HF1.out.alloc _, h1s⟩)
  have HW2 := Lib.hid hw2
  have HBO := Lib.hid hbo
  clear hF1 HKO hw2 hbo hcz
  go_upto_region 4 with (fail)
  rw [HW2.out, HBO.out]
  clear HW2 HBO h1s
  have hfw : w2.cell? ⟨1, 3, none⟩ = some (.string ⟨#[110]⟩) := (HC.out.fr HM2.out.fr).at_ 3 (by omega)
  obtain ⟨o0, o1, o2, o3, o4, of⟩ := Bk.five HM2.out.o
  obtain ⟨z0, z1, z2, z3, z4, zf⟩ := Bk.five HM2.out.z
  by_cases hfew : m0 < 1
  · have e1 : decide ((m0 : Int) < 1) = true := decide_eq_true (by omega)
    have e1' : decide (m0 < 1) = true := decide_eq_true hfew
    have HR := Lib.hid (show readO (u :: r) = (ov0, 0, 162) by rw [HRO.out, if_pos (by have := HM0.out; unfold manyK; simp; try omega)])
    go_wp2
    refine bodyPost_ret (v := .tuple #[.agg #[.int .i64 0, .string ⟨#[]⟩, .string ⟨#[]⟩, .int .i64 0, .int .i64 0], .int .i64 0, .int .i64 162]) (by simp [results, Tryd.results25, go_sem, z0, z1, z2, z3, z4, zf]) rfl ⟨by rw [HR.out]; rfl, ?_⟩
    repeat (refine Fr.set ?_ (.inr (by simp)) _)
    exact HM2.out.fr
  have e1 : decide ((m0 : Int) < 1) = false := decide_eq_false (by omega)
  have e1' : decide (m0 < 1) = false := decide_eq_false hfew
  have HRO := Lib.hid (show readO (u :: r) = match layO 1 r with | none => (ov0, 0, 163) | some o => if chkO o ≠ 0 then (ov0, 0, chkO o) else (o, manyK 1, 0) by rw [HRO.out, if_neg (by have := HM0.out; unfold manyK; simp; try omega)])
  obtain ⟨ra, r2, rfl⟩ : ∃ ra r2, r = ra :: r2 := by
    have hm := HM0.out
    match r, hm with
    | ra :: r2, _ => exact ⟨ra, r2, rfl⟩
    | [], hm => simp at hm; omega
  obtain ⟨q1, hq1⟩ : ∃ q : ByteArray, (⟨ra.toArray⟩ : ByteArray) = q := ⟨_, rfl⟩
  have HQ1 := Lib.hid hq1
  have h1n : (1 : Int) < (n : Int) := by omega
  have h1n' : 1 < n := by omega
  have HX1 := Lib.hid (HX.out ra (by simp))
  clear hq1
  go_wp2
  refine wp_loop_rounds 2 ?_
  have c1 := TR.here HT.out HM2.out.fr (j := 1) (by simp) (by omega) HQ1.out
  rw [rounds_succ]
  go_upto_region 24 with (fail)
  have HMw3 := Lib.hid (HM2.out.set1 q1)
  generalize w2.setCell ⟨bo, 1, none⟩ (.string q1) = w3 at *
  clear o0 o1 o2 o3 o4 of z0 z1 z2 z3 z4 zf c1
  obtain ⟨o0, o1, o2, o3, o4, of⟩ := Bk.five HMw3.out.o
  obtain ⟨z0, z1, z2, z3, z4, zf⟩ := Bk.five HMw3.out.z
  go_wp2
  rw [rounds_succ]
  have HRO := Lib.hid (show readO (u :: ra :: r2) = if chkO ⟨1, ra, [], 0, 0⟩ ≠ 0 then (ov0, 0, chkO ⟨1, ra, [], 0, 0⟩) else (⟨1, ra, [], 0, 0⟩, 2, 0) by rw [HRO.out]; unfold layO manyK; simp [])
  have HCK := Lib.hid (fun W => wCheck1 ⟨1, ra, [], 0, 0⟩ rfl W)
  obtain ⟨rr, hrr⟩ : ∃ rr, chkO ⟨1, ra, [], 0, 0⟩ = rr := ⟨_, rfl⟩
  rw [hrr] at HCK HRO
  unfold OV.v sv at HCK
  dsimp only at HCK
  rw [HQ1.out] at HCK
  clear hrr
  go_wp2_with fail
  refine (HCK.out _).mono ?_
  rintro e wk ⟨rfl, hFk⟩
  have HMk := Lib.hid (HMw3.out.no hFk)
  clear o0 o1 o2 o3 o4 of z0 z1 z2 z3 z4 zf hFk HCK
  obtain ⟨o0, o1, o2, o3, o4, of⟩ := Bk.five HMk.out.o
  obtain ⟨z0, z1, z2, z3, z4, zf⟩ := Bk.five HMk.out.z
  by_cases hz : rr = 0
  · subst hz
    have HR := Lib.hid (show readO (u :: ra :: r2) = (⟨1, ra, [], 0, 0⟩, 2, 0) by rw [HRO.out, if_neg (fun q => q rfl)])
    go_wp2
    refine bodyPost_ret (v := .tuple #[.agg #[.int .i64 1, .string q1, .string ⟨#[]⟩, .int .i64 0, .int .i64 0], .int .i64 2, .int .i64 0]) (by simp [results, Tryd.results25, go_sem, z0, z1, z2, z3, z4, zf]) rfl ⟨?_, ?_⟩
    · rw [HR.out]
      unfold OV.v sv
      dsimp only
      rw [HQ1.out]
      try rfl
    · repeat (refine Fr.set ?_ (.inr (by simp)) _)
      exact HMk.out.fr
  · have HR := Lib.hid (show readO (u :: ra :: r2) = (ov0, 0, rr) by rw [HRO.out, if_pos hz])
    have e6 : (rr != 0) = true := by rw [bne_iff_ne]; exact hz
    go_wp2
    refine bodyPost_ret (v := .tuple #[.agg #[.int .i64 0, .string ⟨#[]⟩, .string ⟨#[]⟩, .int .i64 0, .int .i64 0], .int .i64 0, .int .i64 rr]) (by simp [results, Tryd.results25, go_sem, z0, z1, z2, z3, z4, zf]) rfl ⟨by rw [HR.out]; rfl, ?_⟩
    repeat (refine Fr.set ?_ (.inr (by simp)) _)
    exact HMk.out.fr
set_option maxHeartbeats 8000000 in
set_option maxRecDepth 100000 in
theorem wReadO2 (A : Option Addr) (n c : Nat) (u : List UInt8) (r : List (List UInt8)) (hk : kindK u = 2) (hl : (u :: r).length = n) (hn : n ≤ 8796093022000) (hx : ∀ x ∈ u :: r, x.length ≤ 140737488351232) (w : World) (hT : TR Any w A (u :: r)) (hV : Vs w) (hC : Cf w) :
    Calls Tryd.prog 25 #[.slice A n c] w (Ro w (readO (u :: r))) := by
  have hz : kindZ u = 2 := by unfold kindZ; rw [hk]; rfl
  have HKO := Lib.hid (fun W (hW : Fr No w W) => wKindOf u W (hC.fr hW))
  rw [hz] at HKO
  have HRO := Lib.hid (show readO (u :: r) = if r.length + 1 < manyK 2 then (ov0, 0, 162) else match layO 2 r with | none => (ov0, 0, 163) | some o => if chkO o ≠ 0 then (ov0, 0, chkO o) else (o, manyK 2, 0) by
    unfold readO
    dsimp only
    rw [hk]; rfl)
  have hn0 : 0 < n := by rw [← hl]; simp
  have hn0i : (0 : Int) < (n : Int) := by omega
  have hne : ((n : Int) == 0) = false := by rw [beq_eq_false_iff_ne]; omega
  obtain ⟨ad, hA, hc0⟩ := hT.at_ 0 (by simp)
  subst hA
  obtain ⟨p0, hp0⟩ : ∃ p0 : ByteArray, (⟨u.toArray⟩ : ByteArray) = p0 := ⟨_, rfl⟩
  have hc0 : w.cell? ad = some (.string p0) := by have h := hc0; rw [← hp0]; exact h
  rw [hp0] at HKO
  have HT := Lib.hid hT
  have HV := Lib.hid hV
  have HC := Lib.hid hC
  have HL := Lib.hid hl
  have HX := Lib.hid hx
  have hcz := keepC ((Fr.refl No w).alloc ZO) hc0 id
  unfold ZO at hcz
  have hrl : r.length + 1 = n := by rw [← hl]; simp
  obtain ⟨m0, hm0⟩ : ∃ m0, r.length = m0 := ⟨_, rfl⟩
  have HM0 := Lib.hid hm0
  have hm0n : m0 + 1 = n := by omega
  have hw1 : IntKind.i64.wrap ((n : Int) - 1) = (m0 : Int) := by rw [IntWalk.i64_in _ (by omega)]; omega
  clear hk hz hT hV hC hl hx hp0 hm0 hrl
  go_enter Tryd.func25, Tryd.ntmps25
  go_wp2_with fail
  refine (HKO.out _ ((Fr.refl _ _).alloc _)).mono ?_
  rintro e w1 ⟨rfl, hF1⟩
  have HZ1 := Lib.hid (show Bk w1 w.heap.size 44 [.int .i64 0, .string ⟨#[]⟩, .string ⟨#[]⟩, .int .i64 0, .int .i64 0] from (Bk.new w 44 [.int .i64 0, .string ⟨#[]⟩, .string ⟨#[]⟩, .int .i64 0, .int .i64 0]).fr (S := No) hF1 id)
  have HF1 := Lib.hid (show Fr No w w1 from ((Fr.refl No w).alloc _).then_ hF1)
  have h1s : w.heap.size < w1.heap.size := HZ1.out.lt
  obtain ⟨w2, hw2⟩ : ∃ w2, w1.alloc (.cells #[.int .i64 2, .string ⟨#[]⟩, .string ⟨#[]⟩, .int .i64 0, .int .i64 0] 44 (0, 0)) = w2 := ⟨_, rfl⟩
  obtain ⟨bo, hbo⟩ : ∃ bo, w1.heap.size = bo := ⟨_, rfl⟩
  have HM2 := Lib.hid (show MidO w w2 bo 2 ⟨#[]⟩ ⟨#[]⟩ 0 0 by
    rw [← hw2, ← hbo]
    exact ⟨HZ1.out.alloc _, Bk.new w1 44 [.int .i64 2, .string ⟨#[]⟩, .string ⟨#[]⟩, .int .i64 0, .int .i64 0], HF1.out.alloc _, h1s⟩)
  have HW2 := Lib.hid hw2
  have HBO := Lib.hid hbo
  clear hF1 HKO hw2 hbo hcz
  go_upto_region 4 with (fail)
  rw [HW2.out, HBO.out]
  clear HW2 HBO h1s
  have hfw : w2.cell? ⟨1, 5, none⟩ = some (.string ⟨#[110]⟩) := (HC.out.fr HM2.out.fr).at_ 5 (by omega)
  obtain ⟨o0, o1, o2, o3, o4, of⟩ := Bk.five HM2.out.o
  obtain ⟨z0, z1, z2, z3, z4, zf⟩ := Bk.five HM2.out.z
  by_cases hfew : m0 < 1
  · have e1 : decide ((m0 : Int) < 1) = true := decide_eq_true (by omega)
    have e1' : decide (m0 < 1) = true := decide_eq_true hfew
    have HR := Lib.hid (show readO (u :: r) = (ov0, 0, 162) by rw [HRO.out, if_pos (by have := HM0.out; unfold manyK; simp; try omega)])
    go_wp2
    refine bodyPost_ret (v := .tuple #[.agg #[.int .i64 0, .string ⟨#[]⟩, .string ⟨#[]⟩, .int .i64 0, .int .i64 0], .int .i64 0, .int .i64 162]) (by simp [results, Tryd.results25, go_sem, z0, z1, z2, z3, z4, zf]) rfl ⟨by rw [HR.out]; rfl, ?_⟩
    repeat (refine Fr.set ?_ (.inr (by simp)) _)
    exact HM2.out.fr
  have e1 : decide ((m0 : Int) < 1) = false := decide_eq_false (by omega)
  have e1' : decide (m0 < 1) = false := decide_eq_false hfew
  have HRO := Lib.hid (show readO (u :: r) = match layO 2 r with | none => (ov0, 0, 163) | some o => if chkO o ≠ 0 then (ov0, 0, chkO o) else (o, manyK 2, 0) by rw [HRO.out, if_neg (by have := HM0.out; unfold manyK; simp; try omega)])
  obtain ⟨ra, r2, rfl⟩ : ∃ ra r2, r = ra :: r2 := by
    have hm := HM0.out
    match r, hm with
    | ra :: r2, _ => exact ⟨ra, r2, rfl⟩
    | [], hm => simp at hm; omega
  obtain ⟨q1, hq1⟩ : ∃ q : ByteArray, (⟨ra.toArray⟩ : ByteArray) = q := ⟨_, rfl⟩
  have HQ1 := Lib.hid hq1
  have h1n : (1 : Int) < (n : Int) := by omega
  have h1n' : 1 < n := by omega
  have HX1 := Lib.hid (HX.out ra (by simp))
  clear hq1
  go_wp2
  refine wp_loop_rounds 2 ?_
  have c1 := TR.here HT.out HM2.out.fr (j := 1) (by simp) (by omega) HQ1.out
  rw [rounds_succ]
  go_upto_region 24 with (fail)
  have HMw3 := Lib.hid (HM2.out.set1 q1)
  generalize w2.setCell ⟨bo, 1, none⟩ (.string q1) = w3 at *
  clear o0 o1 o2 o3 o4 of z0 z1 z2 z3 z4 zf c1
  obtain ⟨o0, o1, o2, o3, o4, of⟩ := Bk.five HMw3.out.o
  obtain ⟨z0, z1, z2, z3, z4, zf⟩ := Bk.five HMw3.out.z
  go_wp2
  rw [rounds_succ]
  have HRO := Lib.hid (show readO (u :: ra :: r2) = if chkO ⟨2, ra, [], 0, 0⟩ ≠ 0 then (ov0, 0, chkO ⟨2, ra, [], 0, 0⟩) else (⟨2, ra, [], 0, 0⟩, 2, 0) by rw [HRO.out]; unfold layO manyK; simp [])
  have HCK := Lib.hid (fun W => wCheck2 ⟨2, ra, [], 0, 0⟩ rfl W)
  obtain ⟨rr, hrr⟩ : ∃ rr, chkO ⟨2, ra, [], 0, 0⟩ = rr := ⟨_, rfl⟩
  rw [hrr] at HCK HRO
  unfold OV.v sv at HCK
  dsimp only at HCK
  rw [HQ1.out] at HCK
  clear hrr
  go_wp2_with fail
  refine (HCK.out _).mono ?_
  rintro e wk ⟨rfl, hFk⟩
  have HMk := Lib.hid (HMw3.out.no hFk)
  clear o0 o1 o2 o3 o4 of z0 z1 z2 z3 z4 zf hFk HCK
  obtain ⟨o0, o1, o2, o3, o4, of⟩ := Bk.five HMk.out.o
  obtain ⟨z0, z1, z2, z3, z4, zf⟩ := Bk.five HMk.out.z
  by_cases hz : rr = 0
  · subst hz
    have HR := Lib.hid (show readO (u :: ra :: r2) = (⟨2, ra, [], 0, 0⟩, 2, 0) by rw [HRO.out, if_neg (fun q => q rfl)])
    go_wp2
    refine bodyPost_ret (v := .tuple #[.agg #[.int .i64 2, .string q1, .string ⟨#[]⟩, .int .i64 0, .int .i64 0], .int .i64 2, .int .i64 0]) (by simp [results, Tryd.results25, go_sem, z0, z1, z2, z3, z4, zf]) rfl ⟨?_, ?_⟩
    · rw [HR.out]
      unfold OV.v sv
      dsimp only
      rw [HQ1.out]
      try rfl
    · repeat (refine Fr.set ?_ (.inr (by simp)) _)
      exact HMk.out.fr
  · have HR := Lib.hid (show readO (u :: ra :: r2) = (ov0, 0, rr) by rw [HRO.out, if_pos hz])
    have e6 : (rr != 0) = true := by rw [bne_iff_ne]; exact hz
    go_wp2
    refine bodyPost_ret (v := .tuple #[.agg #[.int .i64 0, .string ⟨#[]⟩, .string ⟨#[]⟩, .int .i64 0, .int .i64 0], .int .i64 0, .int .i64 rr]) (by simp [results, Tryd.results25, go_sem, z0, z1, z2, z3, z4, zf]) rfl ⟨by rw [HR.out]; rfl, ?_⟩
    repeat (refine Fr.set ?_ (.inr (by simp)) _)
    exact HMk.out.fr
set_option maxHeartbeats 8000000 in
set_option maxRecDepth 100000 in
theorem wReadO3 (A : Option Addr) (n c : Nat) (u : List UInt8) (r : List (List UInt8)) (hk : kindK u = 3) (hl : (u :: r).length = n) (hn : n ≤ 8796093022000) (hx : ∀ x ∈ u :: r, x.length ≤ 140737488351232) (w : World) (hT : TR Any w A (u :: r)) (hV : Vs w) (hC : Cf w) :
    Calls Tryd.prog 25 #[.slice A n c] w (Ro w (readO (u :: r))) := by
  have hz : kindZ u = 3 := by unfold kindZ; rw [hk]; rfl
  have HKO := Lib.hid (fun W (hW : Fr No w W) => wKindOf u W (hC.fr hW))
  rw [hz] at HKO
  have HRO := Lib.hid (show readO (u :: r) = if r.length + 1 < manyK 3 then (ov0, 0, 162) else match layO 3 r with | none => (ov0, 0, 163) | some o => if chkO o ≠ 0 then (ov0, 0, chkO o) else (o, manyK 3, 0) by
    unfold readO
    dsimp only
    rw [hk]; rfl)
  have hn0 : 0 < n := by rw [← hl]; simp
  have hn0i : (0 : Int) < (n : Int) := by omega
  have hne : ((n : Int) == 0) = false := by rw [beq_eq_false_iff_ne]; omega
  obtain ⟨ad, hA, hc0⟩ := hT.at_ 0 (by simp)
  subst hA
  obtain ⟨p0, hp0⟩ : ∃ p0 : ByteArray, (⟨u.toArray⟩ : ByteArray) = p0 := ⟨_, rfl⟩
  have hc0 : w.cell? ad = some (.string p0) := by have h := hc0; rw [← hp0]; exact h
  rw [hp0] at HKO
  have HT := Lib.hid hT
  have HV := Lib.hid hV
  have HC := Lib.hid hC
  have HL := Lib.hid hl
  have HX := Lib.hid hx
  have hcz := keepC ((Fr.refl No w).alloc ZO) hc0 id
  unfold ZO at hcz
  have hrl : r.length + 1 = n := by rw [← hl]; simp
  obtain ⟨m0, hm0⟩ : ∃ m0, r.length = m0 := ⟨_, rfl⟩
  have HM0 := Lib.hid hm0
  have hm0n : m0 + 1 = n := by omega
  have hw1 : IntKind.i64.wrap ((n : Int) - 1) = (m0 : Int) := by rw [IntWalk.i64_in _ (by omega)]; omega
  clear hk hz hT hV hC hl hx hp0 hm0 hrl
  go_enter Tryd.func25, Tryd.ntmps25
  go_wp2_with fail
  refine (HKO.out _ ((Fr.refl _ _).alloc _)).mono ?_
  rintro e w1 ⟨rfl, hF1⟩
  have HZ1 := Lib.hid (show Bk w1 w.heap.size 44 [.int .i64 0, .string ⟨#[]⟩, .string ⟨#[]⟩, .int .i64 0, .int .i64 0] from (Bk.new w 44 [.int .i64 0, .string ⟨#[]⟩, .string ⟨#[]⟩, .int .i64 0, .int .i64 0]).fr (S := No) hF1 id)
  have HF1 := Lib.hid (show Fr No w w1 from ((Fr.refl No w).alloc _).then_ hF1)
  have h1s : w.heap.size < w1.heap.size := HZ1.out.lt
  obtain ⟨w2, hw2⟩ : ∃ w2, w1.alloc (.cells #[.int .i64 3, .string ⟨#[]⟩, .string ⟨#[]⟩, .int .i64 0, .int .i64 0] 44 (0, 0)) = w2 := ⟨_, rfl⟩
  obtain ⟨bo, hbo⟩ : ∃ bo, w1.heap.size = bo := ⟨_, rfl⟩
  have HM2 := Lib.hid (show MidO w w2 bo 3 ⟨#[]⟩ ⟨#[]⟩ 0 0 by
    rw [← hw2, ← hbo]
    exact ⟨HZ1.out.alloc _, Bk.new w1 44 [.int .i64 3, .string ⟨#[]⟩, .string ⟨#[]⟩, .int .i64 0, .int .i64 0], HF1.out.alloc _, h1s⟩)
  have HW2 := Lib.hid hw2
  have HBO := Lib.hid hbo
  clear hF1 HKO hw2 hbo hcz
  go_upto_region 4 with (fail)
  rw [HW2.out, HBO.out]
  clear HW2 HBO h1s
  have hfw : w2.cell? ⟨1, 7, none⟩ = some (.string ⟨#[110, 116]⟩) := (HC.out.fr HM2.out.fr).at_ 7 (by omega)
  obtain ⟨o0, o1, o2, o3, o4, of⟩ := Bk.five HM2.out.o
  obtain ⟨z0, z1, z2, z3, z4, zf⟩ := Bk.five HM2.out.z
  by_cases hfew : m0 < 2
  · have e1 : decide ((m0 : Int) < 2) = true := decide_eq_true (by omega)
    have e1' : decide (m0 < 2) = true := decide_eq_true hfew
    have HR := Lib.hid (show readO (u :: r) = (ov0, 0, 162) by rw [HRO.out, if_pos (by have := HM0.out; unfold manyK; simp; try omega)])
    go_wp2
    refine bodyPost_ret (v := .tuple #[.agg #[.int .i64 0, .string ⟨#[]⟩, .string ⟨#[]⟩, .int .i64 0, .int .i64 0], .int .i64 0, .int .i64 162]) (by simp [results, Tryd.results25, go_sem, z0, z1, z2, z3, z4, zf]) rfl ⟨by rw [HR.out]; rfl, ?_⟩
    repeat (refine Fr.set ?_ (.inr (by simp)) _)
    exact HM2.out.fr
  have e1 : decide ((m0 : Int) < 2) = false := decide_eq_false (by omega)
  have e1' : decide (m0 < 2) = false := decide_eq_false hfew
  have HRO := Lib.hid (show readO (u :: r) = match layO 3 r with | none => (ov0, 0, 163) | some o => if chkO o ≠ 0 then (ov0, 0, chkO o) else (o, manyK 3, 0) by rw [HRO.out, if_neg (by have := HM0.out; unfold manyK; simp; try omega)])
  obtain ⟨ra, rb, r2, rfl⟩ : ∃ ra rb r2, r = ra :: rb :: r2 := by
    have hm := HM0.out
    match r, hm with
    | ra :: rb :: r2, _ => exact ⟨ra, rb, r2, rfl⟩
    | [], hm => simp at hm; omega
    | [ra], hm => simp at hm; omega
  obtain ⟨q1, hq1⟩ : ∃ q : ByteArray, (⟨ra.toArray⟩ : ByteArray) = q := ⟨_, rfl⟩
  have HQ1 := Lib.hid hq1
  have h1n : (1 : Int) < (n : Int) := by omega
  have h1n' : 1 < n := by omega
  have HX1 := Lib.hid (HX.out ra (by simp))
  clear hq1
  obtain ⟨q2, hq2⟩ : ∃ q : ByteArray, (⟨rb.toArray⟩ : ByteArray) = q := ⟨_, rfl⟩
  have HQ2 := Lib.hid hq2
  have h2n : (2 : Int) < (n : Int) := by omega
  have h2n' : 2 < n := by omega
  have HX2 := Lib.hid (HX.out rb (by simp))
  clear hq2
  go_wp2
  refine wp_loop_rounds 3 ?_
  have c1 := TR.here HT.out HM2.out.fr (j := 1) (by simp) (by omega) HQ1.out
  rw [rounds_succ]
  go_upto_region 24 with (fail)
  have HMw3 := Lib.hid (HM2.out.set1 q1)
  generalize w2.setCell ⟨bo, 1, none⟩ (.string q1) = w3 at *
  clear o0 o1 o2 o3 o4 of z0 z1 z2 z3 z4 zf c1
  obtain ⟨o0, o1, o2, o3, o4, of⟩ := Bk.five HMw3.out.o
  obtain ⟨z0, z1, z2, z3, z4, zf⟩ := Bk.five HMw3.out.z
  go_wp2
  have c2 := TR.here HT.out HMw3.out.fr (j := 2) (by simp) (by omega) HQ2.out
  rw [rounds_succ]
  go_upto_region 24 with (fail)
  have HMw5 := Lib.hid (HMw3.out.set2 q2)
  generalize w3.setCell ⟨bo, 2, none⟩ (.string q2) = w5 at *
  clear o0 o1 o2 o3 o4 of z0 z1 z2 z3 z4 zf c2
  obtain ⟨o0, o1, o2, o3, o4, of⟩ := Bk.five HMw5.out.o
  obtain ⟨z0, z1, z2, z3, z4, zf⟩ := Bk.five HMw5.out.z
  go_wp2
  rw [rounds_succ]
  have HRO := Lib.hid (show readO (u :: ra :: rb :: r2) = if chkO ⟨3, ra, rb, 0, 0⟩ ≠ 0 then (ov0, 0, chkO ⟨3, ra, rb, 0, 0⟩) else (⟨3, ra, rb, 0, 0⟩, 3, 0) by rw [HRO.out]; unfold layO manyK; simp [])
  have HCK := Lib.hid (fun W => wCheck3 ⟨3, ra, rb, 0, 0⟩ rfl W)
  obtain ⟨rr, hrr⟩ : ∃ rr, chkO ⟨3, ra, rb, 0, 0⟩ = rr := ⟨_, rfl⟩
  rw [hrr] at HCK HRO
  unfold OV.v sv at HCK
  dsimp only at HCK
  rw [HQ1.out] at HCK
  rw [HQ2.out] at HCK
  clear hrr
  go_wp2_with fail
  refine (HCK.out _).mono ?_
  rintro e wk ⟨rfl, hFk⟩
  have HMk := Lib.hid (HMw5.out.no hFk)
  clear o0 o1 o2 o3 o4 of z0 z1 z2 z3 z4 zf hFk HCK
  obtain ⟨o0, o1, o2, o3, o4, of⟩ := Bk.five HMk.out.o
  obtain ⟨z0, z1, z2, z3, z4, zf⟩ := Bk.five HMk.out.z
  by_cases hz : rr = 0
  · subst hz
    have HR := Lib.hid (show readO (u :: ra :: rb :: r2) = (⟨3, ra, rb, 0, 0⟩, 3, 0) by rw [HRO.out, if_neg (fun q => q rfl)])
    go_wp2
    refine bodyPost_ret (v := .tuple #[.agg #[.int .i64 3, .string q1, .string q2, .int .i64 0, .int .i64 0], .int .i64 3, .int .i64 0]) (by simp [results, Tryd.results25, go_sem, z0, z1, z2, z3, z4, zf]) rfl ⟨?_, ?_⟩
    · rw [HR.out]
      unfold OV.v sv
      dsimp only
      rw [HQ1.out]; rw [HQ2.out]
      try rfl
    · repeat (refine Fr.set ?_ (.inr (by simp)) _)
      exact HMk.out.fr
  · have HR := Lib.hid (show readO (u :: ra :: rb :: r2) = (ov0, 0, rr) by rw [HRO.out, if_pos hz])
    have e6 : (rr != 0) = true := by rw [bne_iff_ne]; exact hz
    go_wp2
    refine bodyPost_ret (v := .tuple #[.agg #[.int .i64 0, .string ⟨#[]⟩, .string ⟨#[]⟩, .int .i64 0, .int .i64 0], .int .i64 0, .int .i64 rr]) (by simp [results, Tryd.results25, go_sem, z0, z1, z2, z3, z4, zf]) rfl ⟨by rw [HR.out]; rfl, ?_⟩
    repeat (refine Fr.set ?_ (.inr (by simp)) _)
    exact HMk.out.fr
set_option maxHeartbeats 8000000 in
set_option maxRecDepth 100000 in
theorem wReadO4 (A : Option Addr) (n c : Nat) (u : List UInt8) (r : List (List UInt8)) (hk : kindK u = 4) (hl : (u :: r).length = n) (hn : n ≤ 8796093022000) (hx : ∀ x ∈ u :: r, x.length ≤ 140737488351232) (w : World) (hT : TR Any w A (u :: r)) (hV : Vs w) (hC : Cf w) :
    Calls Tryd.prog 25 #[.slice A n c] w (Ro w (readO (u :: r))) := by
  have hz : kindZ u = 4 := by unfold kindZ; rw [hk]; rfl
  have HKO := Lib.hid (fun W (hW : Fr No w W) => wKindOf u W (hC.fr hW))
  rw [hz] at HKO
  have HRO := Lib.hid (show readO (u :: r) = if r.length + 1 < manyK 4 then (ov0, 0, 162) else match layO 4 r with | none => (ov0, 0, 163) | some o => if chkO o ≠ 0 then (ov0, 0, chkO o) else (o, manyK 4, 0) by
    unfold readO
    dsimp only
    rw [hk]; rfl)
  have hn0 : 0 < n := by rw [← hl]; simp
  have hn0i : (0 : Int) < (n : Int) := by omega
  have hne : ((n : Int) == 0) = false := by rw [beq_eq_false_iff_ne]; omega
  obtain ⟨ad, hA, hc0⟩ := hT.at_ 0 (by simp)
  subst hA
  obtain ⟨p0, hp0⟩ : ∃ p0 : ByteArray, (⟨u.toArray⟩ : ByteArray) = p0 := ⟨_, rfl⟩
  have hc0 : w.cell? ad = some (.string p0) := by have h := hc0; rw [← hp0]; exact h
  rw [hp0] at HKO
  have HT := Lib.hid hT
  have HV := Lib.hid hV
  have HC := Lib.hid hC
  have HL := Lib.hid hl
  have HX := Lib.hid hx
  have hcz := keepC ((Fr.refl No w).alloc ZO) hc0 id
  unfold ZO at hcz
  have hrl : r.length + 1 = n := by rw [← hl]; simp
  obtain ⟨m0, hm0⟩ : ∃ m0, r.length = m0 := ⟨_, rfl⟩
  have HM0 := Lib.hid hm0
  have hm0n : m0 + 1 = n := by omega
  have hw1 : IntKind.i64.wrap ((n : Int) - 1) = (m0 : Int) := by rw [IntWalk.i64_in _ (by omega)]; omega
  clear hk hz hT hV hC hl hx hp0 hm0 hrl
  go_enter Tryd.func25, Tryd.ntmps25
  go_wp2_with fail
  refine (HKO.out _ ((Fr.refl _ _).alloc _)).mono ?_
  rintro e w1 ⟨rfl, hF1⟩
  have HZ1 := Lib.hid (show Bk w1 w.heap.size 44 [.int .i64 0, .string ⟨#[]⟩, .string ⟨#[]⟩, .int .i64 0, .int .i64 0] from (Bk.new w 44 [.int .i64 0, .string ⟨#[]⟩, .string ⟨#[]⟩, .int .i64 0, .int .i64 0]).fr (S := No) hF1 id)
  have HF1 := Lib.hid (show Fr No w w1 from ((Fr.refl No w).alloc _).then_ hF1)
  have h1s : w.heap.size < w1.heap.size := HZ1.out.lt
  obtain ⟨w2, hw2⟩ : ∃ w2, w1.alloc (.cells #[.int .i64 4, .string ⟨#[]⟩, .string ⟨#[]⟩, .int .i64 0, .int .i64 0] 44 (0, 0)) = w2 := ⟨_, rfl⟩
  obtain ⟨bo, hbo⟩ : ∃ bo, w1.heap.size = bo := ⟨_, rfl⟩
  have HM2 := Lib.hid (show MidO w w2 bo 4 ⟨#[]⟩ ⟨#[]⟩ 0 0 by
    rw [← hw2, ← hbo]
    exact ⟨HZ1.out.alloc _, Bk.new w1 44 [.int .i64 4, .string ⟨#[]⟩, .string ⟨#[]⟩, .int .i64 0, .int .i64 0], HF1.out.alloc _, h1s⟩)
  have HW2 := Lib.hid hw2
  have HBO := Lib.hid hbo
  clear hF1 HKO hw2 hbo hcz
  go_upto_region 4 with (fail)
  rw [HW2.out, HBO.out]
  clear HW2 HBO h1s
  have hfw : w2.cell? ⟨1, 9, none⟩ = some (.string ⟨#[110, 107]⟩) := (HC.out.fr HM2.out.fr).at_ 9 (by omega)
  obtain ⟨o0, o1, o2, o3, o4, of⟩ := Bk.five HM2.out.o
  obtain ⟨z0, z1, z2, z3, z4, zf⟩ := Bk.five HM2.out.z
  by_cases hfew : m0 < 2
  · have e1 : decide ((m0 : Int) < 2) = true := decide_eq_true (by omega)
    have e1' : decide (m0 < 2) = true := decide_eq_true hfew
    have HR := Lib.hid (show readO (u :: r) = (ov0, 0, 162) by rw [HRO.out, if_pos (by have := HM0.out; unfold manyK; simp; try omega)])
    go_wp2
    refine bodyPost_ret (v := .tuple #[.agg #[.int .i64 0, .string ⟨#[]⟩, .string ⟨#[]⟩, .int .i64 0, .int .i64 0], .int .i64 0, .int .i64 162]) (by simp [results, Tryd.results25, go_sem, z0, z1, z2, z3, z4, zf]) rfl ⟨by rw [HR.out]; rfl, ?_⟩
    repeat (refine Fr.set ?_ (.inr (by simp)) _)
    exact HM2.out.fr
  have e1 : decide ((m0 : Int) < 2) = false := decide_eq_false (by omega)
  have e1' : decide (m0 < 2) = false := decide_eq_false hfew
  have HRO := Lib.hid (show readO (u :: r) = match layO 4 r with | none => (ov0, 0, 163) | some o => if chkO o ≠ 0 then (ov0, 0, chkO o) else (o, manyK 4, 0) by rw [HRO.out, if_neg (by have := HM0.out; unfold manyK; simp; try omega)])
  obtain ⟨ra, rb, r2, rfl⟩ : ∃ ra rb r2, r = ra :: rb :: r2 := by
    have hm := HM0.out
    match r, hm with
    | ra :: rb :: r2, _ => exact ⟨ra, rb, r2, rfl⟩
    | [], hm => simp at hm; omega
    | [ra], hm => simp at hm; omega
  obtain ⟨q1, hq1⟩ : ∃ q : ByteArray, (⟨ra.toArray⟩ : ByteArray) = q := ⟨_, rfl⟩
  have HQ1 := Lib.hid hq1
  have h1n : (1 : Int) < (n : Int) := by omega
  have h1n' : 1 < n := by omega
  have HX1 := Lib.hid (HX.out ra (by simp))
  clear hq1
  obtain ⟨q2, hq2⟩ : ∃ q : ByteArray, (⟨rb.toArray⟩ : ByteArray) = q := ⟨_, rfl⟩
  have HQ2 := Lib.hid hq2
  have h2n : (2 : Int) < (n : Int) := by omega
  have h2n' : 2 < n := by omega
  have HX2 := Lib.hid (HX.out rb (by simp))
  clear hq2
  go_wp2
  refine wp_loop_rounds 3 ?_
  have c1 := TR.here HT.out HM2.out.fr (j := 1) (by simp) (by omega) HQ1.out
  rw [rounds_succ]
  go_upto_region 24 with (fail)
  have HMw3 := Lib.hid (HM2.out.set1 q1)
  generalize w2.setCell ⟨bo, 1, none⟩ (.string q1) = w3 at *
  clear o0 o1 o2 o3 o4 of z0 z1 z2 z3 z4 zf c1
  obtain ⟨o0, o1, o2, o3, o4, of⟩ := Bk.five HMw3.out.o
  obtain ⟨z0, z1, z2, z3, z4, zf⟩ := Bk.five HMw3.out.z
  go_wp2
  have c2 := TR.here HT.out HMw3.out.fr (j := 2) (by simp) (by omega) HQ2.out
  rw [rounds_succ]
  go_wp2_with fail
  rcases hnn2 : numL rb with _ | v2
  · have HNU := Lib.hid (number_none HQ2.out HX2.out hnn2 w3 (HV.out.fr HMw3.out.fr))
    refine HNU.out.mono ?_
    rintro e w4c ⟨rfl, hFc⟩
    have HMc := Lib.hid (HMw3.out.no hFc)
    have HR := Lib.hid (show readO (u :: ra :: rb :: r2) = (ov0, 0, 163) by rw [HRO.out]; unfold layO; simp [hnn2])
    clear o0 o1 o2 o3 o4 of z0 z1 z2 z3 z4 zf c2
    obtain ⟨o0, o1, o2, o3, o4, of⟩ := Bk.five HMc.out.o
    have HMd := Lib.hid (HMc.out.set3 0)
    obtain ⟨z0, z1, z2, z3, z4, zf⟩ := Bk.five HMd.out.z
    clear hFc
    go_wp2
    refine bodyPost_ret (v := .tuple #[.agg #[.int .i64 0, .string ⟨#[]⟩, .string ⟨#[]⟩, .int .i64 0, .int .i64 0], .int .i64 0, .int .i64 163]) (by simp [results, Tryd.results25, go_sem, z0, z1, z2, z3, z4, zf]) rfl ⟨by rw [HR.out]; rfl, ?_⟩
    iterate 5 (refine Fr.set ?_ (.inr (by simp)) _)
    exact HMd.out.fr
  have HNU := Lib.hid (number_some HQ2.out HX2.out hnn2 w3 (HV.out.fr HMw3.out.fr))
  have HNN2 := Lib.hid hnn2
  refine HNU.out.mono ?_
  rintro e w4c ⟨rfl, hFc⟩
  have HMc2 := Lib.hid (HMw3.out.no hFc)
  clear o0 o1 o2 o3 o4 of z0 z1 z2 z3 z4 zf c2 hFc HNU
  obtain ⟨o0, o1, o2, o3, o4, of⟩ := Bk.five HMc2.out.o
  go_upto_region 24 with (fail)
  have HMw5 := Lib.hid (HMc2.out.set3 (v2 : Int))
  generalize w4c.setCell ⟨bo, 3, none⟩ (.int .i64 (v2 : Int)) = w5 at *
  clear o0 o1 o2 o3 o4 of
  obtain ⟨o0, o1, o2, o3, o4, of⟩ := Bk.five HMw5.out.o
  obtain ⟨z0, z1, z2, z3, z4, zf⟩ := Bk.five HMw5.out.z
  go_wp2
  rw [rounds_succ]
  have HRO := Lib.hid (show readO (u :: ra :: rb :: r2) = if chkO ⟨4, ra, [], (v2 : Int), 0⟩ ≠ 0 then (ov0, 0, chkO ⟨4, ra, [], (v2 : Int), 0⟩) else (⟨4, ra, [], (v2 : Int), 0⟩, 3, 0) by rw [HRO.out]; unfold layO manyK; simp [HNN2.out])
  have HCK := Lib.hid (fun W => wCheck4 ⟨4, ra, [], (v2 : Int), 0⟩ rfl W)
  obtain ⟨rr, hrr⟩ : ∃ rr, chkO ⟨4, ra, [], (v2 : Int), 0⟩ = rr := ⟨_, rfl⟩
  rw [hrr] at HCK HRO
  unfold OV.v sv at HCK
  dsimp only at HCK
  rw [HQ1.out] at HCK
  clear hrr
  go_wp2_with fail
  refine (HCK.out _).mono ?_
  rintro e wk ⟨rfl, hFk⟩
  have HMk := Lib.hid (HMw5.out.no hFk)
  clear o0 o1 o2 o3 o4 of z0 z1 z2 z3 z4 zf hFk HCK
  obtain ⟨o0, o1, o2, o3, o4, of⟩ := Bk.five HMk.out.o
  obtain ⟨z0, z1, z2, z3, z4, zf⟩ := Bk.five HMk.out.z
  by_cases hz : rr = 0
  · subst hz
    have HR := Lib.hid (show readO (u :: ra :: rb :: r2) = (⟨4, ra, [], (v2 : Int), 0⟩, 3, 0) by rw [HRO.out, if_neg (fun q => q rfl)])
    go_wp2
    refine bodyPost_ret (v := .tuple #[.agg #[.int .i64 4, .string q1, .string ⟨#[]⟩, .int .i64 (v2 : Int), .int .i64 0], .int .i64 3, .int .i64 0]) (by simp [results, Tryd.results25, go_sem, z0, z1, z2, z3, z4, zf]) rfl ⟨?_, ?_⟩
    · rw [HR.out]
      unfold OV.v sv
      dsimp only
      rw [HQ1.out]
      try rfl
    · repeat (refine Fr.set ?_ (.inr (by simp)) _)
      exact HMk.out.fr
  · have HR := Lib.hid (show readO (u :: ra :: rb :: r2) = (ov0, 0, rr) by rw [HRO.out, if_pos hz])
    have e6 : (rr != 0) = true := by rw [bne_iff_ne]; exact hz
    go_wp2
    refine bodyPost_ret (v := .tuple #[.agg #[.int .i64 0, .string ⟨#[]⟩, .string ⟨#[]⟩, .int .i64 0, .int .i64 0], .int .i64 0, .int .i64 rr]) (by simp [results, Tryd.results25, go_sem, z0, z1, z2, z3, z4, zf]) rfl ⟨by rw [HR.out]; rfl, ?_⟩
    repeat (refine Fr.set ?_ (.inr (by simp)) _)
    exact HMk.out.fr
set_option maxHeartbeats 8000000 in
set_option maxRecDepth 100000 in
theorem wReadO5 (A : Option Addr) (n c : Nat) (u : List UInt8) (r : List (List UInt8)) (hk : kindK u = 5) (hl : (u :: r).length = n) (hn : n ≤ 8796093022000) (hx : ∀ x ∈ u :: r, x.length ≤ 140737488351232) (w : World) (hT : TR Any w A (u :: r)) (hV : Vs w) (hC : Cf w) :
    Calls Tryd.prog 25 #[.slice A n c] w (Ro w (readO (u :: r))) := by
  have hz : kindZ u = 5 := by unfold kindZ; rw [hk]; rfl
  have HKO := Lib.hid (fun W (hW : Fr No w W) => wKindOf u W (hC.fr hW))
  rw [hz] at HKO
  have HRO := Lib.hid (show readO (u :: r) = if r.length + 1 < manyK 5 then (ov0, 0, 162) else match layO 5 r with | none => (ov0, 0, 163) | some o => if chkO o ≠ 0 then (ov0, 0, chkO o) else (o, manyK 5, 0) by
    unfold readO
    dsimp only
    rw [hk]; rfl)
  have hn0 : 0 < n := by rw [← hl]; simp
  have hn0i : (0 : Int) < (n : Int) := by omega
  have hne : ((n : Int) == 0) = false := by rw [beq_eq_false_iff_ne]; omega
  obtain ⟨ad, hA, hc0⟩ := hT.at_ 0 (by simp)
  subst hA
  obtain ⟨p0, hp0⟩ : ∃ p0 : ByteArray, (⟨u.toArray⟩ : ByteArray) = p0 := ⟨_, rfl⟩
  have hc0 : w.cell? ad = some (.string p0) := by have h := hc0; rw [← hp0]; exact h
  rw [hp0] at HKO
  have HT := Lib.hid hT
  have HV := Lib.hid hV
  have HC := Lib.hid hC
  have HL := Lib.hid hl
  have HX := Lib.hid hx
  have hcz := keepC ((Fr.refl No w).alloc ZO) hc0 id
  unfold ZO at hcz
  have hrl : r.length + 1 = n := by rw [← hl]; simp
  obtain ⟨m0, hm0⟩ : ∃ m0, r.length = m0 := ⟨_, rfl⟩
  have HM0 := Lib.hid hm0
  have hm0n : m0 + 1 = n := by omega
  have hw1 : IntKind.i64.wrap ((n : Int) - 1) = (m0 : Int) := by rw [IntWalk.i64_in _ (by omega)]; omega
  clear hk hz hT hV hC hl hx hp0 hm0 hrl
  go_enter Tryd.func25, Tryd.ntmps25
  go_wp2_with fail
  refine (HKO.out _ ((Fr.refl _ _).alloc _)).mono ?_
  rintro e w1 ⟨rfl, hF1⟩
  have HZ1 := Lib.hid (show Bk w1 w.heap.size 44 [.int .i64 0, .string ⟨#[]⟩, .string ⟨#[]⟩, .int .i64 0, .int .i64 0] from (Bk.new w 44 [.int .i64 0, .string ⟨#[]⟩, .string ⟨#[]⟩, .int .i64 0, .int .i64 0]).fr (S := No) hF1 id)
  have HF1 := Lib.hid (show Fr No w w1 from ((Fr.refl No w).alloc _).then_ hF1)
  have h1s : w.heap.size < w1.heap.size := HZ1.out.lt
  obtain ⟨w2, hw2⟩ : ∃ w2, w1.alloc (.cells #[.int .i64 5, .string ⟨#[]⟩, .string ⟨#[]⟩, .int .i64 0, .int .i64 0] 44 (0, 0)) = w2 := ⟨_, rfl⟩
  obtain ⟨bo, hbo⟩ : ∃ bo, w1.heap.size = bo := ⟨_, rfl⟩
  have HM2 := Lib.hid (show MidO w w2 bo 5 ⟨#[]⟩ ⟨#[]⟩ 0 0 by
    rw [← hw2, ← hbo]
    exact ⟨HZ1.out.alloc _, Bk.new w1 44 [.int .i64 5, .string ⟨#[]⟩, .string ⟨#[]⟩, .int .i64 0, .int .i64 0], HF1.out.alloc _, h1s⟩)
  have HW2 := Lib.hid hw2
  have HBO := Lib.hid hbo
  clear hF1 HKO hw2 hbo hcz
  go_upto_region 4 with (fail)
  rw [HW2.out, HBO.out]
  clear HW2 HBO h1s
  have hfw : w2.cell? ⟨1, 11, none⟩ = some (.string ⟨#[110, 116]⟩) := (HC.out.fr HM2.out.fr).at_ 11 (by omega)
  obtain ⟨o0, o1, o2, o3, o4, of⟩ := Bk.five HM2.out.o
  obtain ⟨z0, z1, z2, z3, z4, zf⟩ := Bk.five HM2.out.z
  by_cases hfew : m0 < 2
  · have e1 : decide ((m0 : Int) < 2) = true := decide_eq_true (by omega)
    have e1' : decide (m0 < 2) = true := decide_eq_true hfew
    have HR := Lib.hid (show readO (u :: r) = (ov0, 0, 162) by rw [HRO.out, if_pos (by have := HM0.out; unfold manyK; simp; try omega)])
    go_wp2
    refine bodyPost_ret (v := .tuple #[.agg #[.int .i64 0, .string ⟨#[]⟩, .string ⟨#[]⟩, .int .i64 0, .int .i64 0], .int .i64 0, .int .i64 162]) (by simp [results, Tryd.results25, go_sem, z0, z1, z2, z3, z4, zf]) rfl ⟨by rw [HR.out]; rfl, ?_⟩
    repeat (refine Fr.set ?_ (.inr (by simp)) _)
    exact HM2.out.fr
  have e1 : decide ((m0 : Int) < 2) = false := decide_eq_false (by omega)
  have e1' : decide (m0 < 2) = false := decide_eq_false hfew
  have HRO := Lib.hid (show readO (u :: r) = match layO 5 r with | none => (ov0, 0, 163) | some o => if chkO o ≠ 0 then (ov0, 0, chkO o) else (o, manyK 5, 0) by rw [HRO.out, if_neg (by have := HM0.out; unfold manyK; simp; try omega)])
  obtain ⟨ra, rb, r2, rfl⟩ : ∃ ra rb r2, r = ra :: rb :: r2 := by
    have hm := HM0.out
    match r, hm with
    | ra :: rb :: r2, _ => exact ⟨ra, rb, r2, rfl⟩
    | [], hm => simp at hm; omega
    | [ra], hm => simp at hm; omega
  obtain ⟨q1, hq1⟩ : ∃ q : ByteArray, (⟨ra.toArray⟩ : ByteArray) = q := ⟨_, rfl⟩
  have HQ1 := Lib.hid hq1
  have h1n : (1 : Int) < (n : Int) := by omega
  have h1n' : 1 < n := by omega
  have HX1 := Lib.hid (HX.out ra (by simp))
  clear hq1
  obtain ⟨q2, hq2⟩ : ∃ q : ByteArray, (⟨rb.toArray⟩ : ByteArray) = q := ⟨_, rfl⟩
  have HQ2 := Lib.hid hq2
  have h2n : (2 : Int) < (n : Int) := by omega
  have h2n' : 2 < n := by omega
  have HX2 := Lib.hid (HX.out rb (by simp))
  clear hq2
  go_wp2
  refine wp_loop_rounds 3 ?_
  have c1 := TR.here HT.out HM2.out.fr (j := 1) (by simp) (by omega) HQ1.out
  rw [rounds_succ]
  go_upto_region 24 with (fail)
  have HMw3 := Lib.hid (HM2.out.set1 q1)
  generalize w2.setCell ⟨bo, 1, none⟩ (.string q1) = w3 at *
  clear o0 o1 o2 o3 o4 of z0 z1 z2 z3 z4 zf c1
  obtain ⟨o0, o1, o2, o3, o4, of⟩ := Bk.five HMw3.out.o
  obtain ⟨z0, z1, z2, z3, z4, zf⟩ := Bk.five HMw3.out.z
  go_wp2
  have c2 := TR.here HT.out HMw3.out.fr (j := 2) (by simp) (by omega) HQ2.out
  rw [rounds_succ]
  go_upto_region 24 with (fail)
  have HMw5 := Lib.hid (HMw3.out.set2 q2)
  generalize w3.setCell ⟨bo, 2, none⟩ (.string q2) = w5 at *
  clear o0 o1 o2 o3 o4 of z0 z1 z2 z3 z4 zf c2
  obtain ⟨o0, o1, o2, o3, o4, of⟩ := Bk.five HMw5.out.o
  obtain ⟨z0, z1, z2, z3, z4, zf⟩ := Bk.five HMw5.out.z
  go_wp2
  rw [rounds_succ]
  have HRO := Lib.hid (show readO (u :: ra :: rb :: r2) = if chkO ⟨5, ra, rb, 0, 0⟩ ≠ 0 then (ov0, 0, chkO ⟨5, ra, rb, 0, 0⟩) else (⟨5, ra, rb, 0, 0⟩, 3, 0) by rw [HRO.out]; unfold layO manyK; simp [])
  have HCK := Lib.hid (fun W => wCheck5 ⟨5, ra, rb, 0, 0⟩ rfl W)
  obtain ⟨rr, hrr⟩ : ∃ rr, chkO ⟨5, ra, rb, 0, 0⟩ = rr := ⟨_, rfl⟩
  rw [hrr] at HCK HRO
  unfold OV.v sv at HCK
  dsimp only at HCK
  rw [HQ1.out] at HCK
  rw [HQ2.out] at HCK
  clear hrr
  go_wp2_with fail
  refine (HCK.out _).mono ?_
  rintro e wk ⟨rfl, hFk⟩
  have HMk := Lib.hid (HMw5.out.no hFk)
  clear o0 o1 o2 o3 o4 of z0 z1 z2 z3 z4 zf hFk HCK
  obtain ⟨o0, o1, o2, o3, o4, of⟩ := Bk.five HMk.out.o
  obtain ⟨z0, z1, z2, z3, z4, zf⟩ := Bk.five HMk.out.z
  by_cases hz : rr = 0
  · subst hz
    have HR := Lib.hid (show readO (u :: ra :: rb :: r2) = (⟨5, ra, rb, 0, 0⟩, 3, 0) by rw [HRO.out, if_neg (fun q => q rfl)])
    go_wp2
    refine bodyPost_ret (v := .tuple #[.agg #[.int .i64 5, .string q1, .string q2, .int .i64 0, .int .i64 0], .int .i64 3, .int .i64 0]) (by simp [results, Tryd.results25, go_sem, z0, z1, z2, z3, z4, zf]) rfl ⟨?_, ?_⟩
    · rw [HR.out]
      unfold OV.v sv
      dsimp only
      rw [HQ1.out]; rw [HQ2.out]
      try rfl
    · repeat (refine Fr.set ?_ (.inr (by simp)) _)
      exact HMk.out.fr
  · have HR := Lib.hid (show readO (u :: ra :: rb :: r2) = (ov0, 0, rr) by rw [HRO.out, if_pos hz])
    have e6 : (rr != 0) = true := by rw [bne_iff_ne]; exact hz
    go_wp2
    refine bodyPost_ret (v := .tuple #[.agg #[.int .i64 0, .string ⟨#[]⟩, .string ⟨#[]⟩, .int .i64 0, .int .i64 0], .int .i64 0, .int .i64 rr]) (by simp [results, Tryd.results25, go_sem, z0, z1, z2, z3, z4, zf]) rfl ⟨by rw [HR.out]; rfl, ?_⟩
    repeat (refine Fr.set ?_ (.inr (by simp)) _)
    exact HMk.out.fr
set_option maxHeartbeats 8000000 in
set_option maxRecDepth 100000 in
theorem wReadO6 (A : Option Addr) (n c : Nat) (u : List UInt8) (r : List (List UInt8)) (hk : kindK u = 6) (hl : (u :: r).length = n) (hn : n ≤ 8796093022000) (hx : ∀ x ∈ u :: r, x.length ≤ 140737488351232) (w : World) (hT : TR Any w A (u :: r)) (hV : Vs w) (hC : Cf w) :
    Calls Tryd.prog 25 #[.slice A n c] w (Ro w (readO (u :: r))) := by
  have hz : kindZ u = 6 := by unfold kindZ; rw [hk]; rfl
  have HKO := Lib.hid (fun W (hW : Fr No w W) => wKindOf u W (hC.fr hW))
  rw [hz] at HKO
  have HRO := Lib.hid (show readO (u :: r) = if r.length + 1 < manyK 6 then (ov0, 0, 162) else match layO 6 r with | none => (ov0, 0, 163) | some o => if chkO o ≠ 0 then (ov0, 0, chkO o) else (o, manyK 6, 0) by
    unfold readO
    dsimp only
    rw [hk]; rfl)
  have hn0 : 0 < n := by rw [← hl]; simp
  have hn0i : (0 : Int) < (n : Int) := by omega
  have hne : ((n : Int) == 0) = false := by rw [beq_eq_false_iff_ne]; omega
  obtain ⟨ad, hA, hc0⟩ := hT.at_ 0 (by simp)
  subst hA
  obtain ⟨p0, hp0⟩ : ∃ p0 : ByteArray, (⟨u.toArray⟩ : ByteArray) = p0 := ⟨_, rfl⟩
  have hc0 : w.cell? ad = some (.string p0) := by have h := hc0; rw [← hp0]; exact h
  rw [hp0] at HKO
  have HT := Lib.hid hT
  have HV := Lib.hid hV
  have HC := Lib.hid hC
  have HL := Lib.hid hl
  have HX := Lib.hid hx
  have hcz := keepC ((Fr.refl No w).alloc ZO) hc0 id
  unfold ZO at hcz
  have hrl : r.length + 1 = n := by rw [← hl]; simp
  obtain ⟨m0, hm0⟩ : ∃ m0, r.length = m0 := ⟨_, rfl⟩
  have HM0 := Lib.hid hm0
  have hm0n : m0 + 1 = n := by omega
  have hw1 : IntKind.i64.wrap ((n : Int) - 1) = (m0 : Int) := by rw [IntWalk.i64_in _ (by omega)]; omega
  clear hk hz hT hV hC hl hx hp0 hm0 hrl
  go_enter Tryd.func25, Tryd.ntmps25
  go_wp2_with fail
  refine (HKO.out _ ((Fr.refl _ _).alloc _)).mono ?_
  rintro e w1 ⟨rfl, hF1⟩
  have HZ1 := Lib.hid (show Bk w1 w.heap.size 44 [.int .i64 0, .string ⟨#[]⟩, .string ⟨#[]⟩, .int .i64 0, .int .i64 0] from (Bk.new w 44 [.int .i64 0, .string ⟨#[]⟩, .string ⟨#[]⟩, .int .i64 0, .int .i64 0]).fr (S := No) hF1 id)
  have HF1 := Lib.hid (show Fr No w w1 from ((Fr.refl No w).alloc _).then_ hF1)
  have h1s : w.heap.size < w1.heap.size := HZ1.out.lt
  obtain ⟨w2, hw2⟩ : ∃ w2, w1.alloc (.cells #[.int .i64 6, .string ⟨#[]⟩, .string ⟨#[]⟩, .int .i64 0, .int .i64 0] 44 (0, 0)) = w2 := ⟨_, rfl⟩
  obtain ⟨bo, hbo⟩ : ∃ bo, w1.heap.size = bo := ⟨_, rfl⟩
  have HM2 := Lib.hid (show MidO w w2 bo 6 ⟨#[]⟩ ⟨#[]⟩ 0 0 by
    rw [← hw2, ← hbo]
    exact ⟨HZ1.out.alloc _, Bk.new w1 44 [.int .i64 6, .string ⟨#[]⟩, .string ⟨#[]⟩, .int .i64 0, .int .i64 0], HF1.out.alloc _, h1s⟩)
  have HW2 := Lib.hid hw2
  have HBO := Lib.hid hbo
  clear hF1 HKO hw2 hbo hcz
  go_upto_region 4 with (fail)
  rw [HW2.out, HBO.out]
  clear HW2 HBO h1s
  have hfw : w2.cell? ⟨1, 13, none⟩ = some (.string ⟨#[110, 107, 109]⟩) := (HC.out.fr HM2.out.fr).at_ 13 (by omega)
  obtain ⟨o0, o1, o2, o3, o4, of⟩ := Bk.five HM2.out.o
  obtain ⟨z0, z1, z2, z3, z4, zf⟩ := Bk.five HM2.out.z
  by_cases hfew : m0 < 3
  · have e1 : decide ((m0 : Int) < 3) = true := decide_eq_true (by omega)
    have e1' : decide (m0 < 3) = true := decide_eq_true hfew
    have HR := Lib.hid (show readO (u :: r) = (ov0, 0, 162) by rw [HRO.out, if_pos (by have := HM0.out; unfold manyK; simp; try omega)])
    go_wp2
    refine bodyPost_ret (v := .tuple #[.agg #[.int .i64 0, .string ⟨#[]⟩, .string ⟨#[]⟩, .int .i64 0, .int .i64 0], .int .i64 0, .int .i64 162]) (by simp [results, Tryd.results25, go_sem, z0, z1, z2, z3, z4, zf]) rfl ⟨by rw [HR.out]; rfl, ?_⟩
    repeat (refine Fr.set ?_ (.inr (by simp)) _)
    exact HM2.out.fr
  have e1 : decide ((m0 : Int) < 3) = false := decide_eq_false (by omega)
  have e1' : decide (m0 < 3) = false := decide_eq_false hfew
  have HRO := Lib.hid (show readO (u :: r) = match layO 6 r with | none => (ov0, 0, 163) | some o => if chkO o ≠ 0 then (ov0, 0, chkO o) else (o, manyK 6, 0) by rw [HRO.out, if_neg (by have := HM0.out; unfold manyK; simp; try omega)])
  obtain ⟨ra, rb, rc, r2, rfl⟩ : ∃ ra rb rc r2, r = ra :: rb :: rc :: r2 := by
    have hm := HM0.out
    match r, hm with
    | ra :: rb :: rc :: r2, _ => exact ⟨ra, rb, rc, r2, rfl⟩
    | [], hm => simp at hm; omega
    | [ra], hm => simp at hm; omega
    | [ra, rb], hm => simp at hm; omega
  obtain ⟨q1, hq1⟩ : ∃ q : ByteArray, (⟨ra.toArray⟩ : ByteArray) = q := ⟨_, rfl⟩
  have HQ1 := Lib.hid hq1
  have h1n : (1 : Int) < (n : Int) := by omega
  have h1n' : 1 < n := by omega
  have HX1 := Lib.hid (HX.out ra (by simp))
  clear hq1
  obtain ⟨q2, hq2⟩ : ∃ q : ByteArray, (⟨rb.toArray⟩ : ByteArray) = q := ⟨_, rfl⟩
  have HQ2 := Lib.hid hq2
  have h2n : (2 : Int) < (n : Int) := by omega
  have h2n' : 2 < n := by omega
  have HX2 := Lib.hid (HX.out rb (by simp))
  clear hq2
  obtain ⟨q3, hq3⟩ : ∃ q : ByteArray, (⟨rc.toArray⟩ : ByteArray) = q := ⟨_, rfl⟩
  have HQ3 := Lib.hid hq3
  have h3n : (3 : Int) < (n : Int) := by omega
  have h3n' : 3 < n := by omega
  have HX3 := Lib.hid (HX.out rc (by simp))
  clear hq3
  go_wp2
  refine wp_loop_rounds 4 ?_
  have c1 := TR.here HT.out HM2.out.fr (j := 1) (by simp) (by omega) HQ1.out
  rw [rounds_succ]
  go_upto_region 24 with (fail)
  have HMw3 := Lib.hid (HM2.out.set1 q1)
  generalize w2.setCell ⟨bo, 1, none⟩ (.string q1) = w3 at *
  clear o0 o1 o2 o3 o4 of z0 z1 z2 z3 z4 zf c1
  obtain ⟨o0, o1, o2, o3, o4, of⟩ := Bk.five HMw3.out.o
  obtain ⟨z0, z1, z2, z3, z4, zf⟩ := Bk.five HMw3.out.z
  go_wp2
  have c2 := TR.here HT.out HMw3.out.fr (j := 2) (by simp) (by omega) HQ2.out
  rw [rounds_succ]
  go_wp2_with fail
  rcases hnn2 : numL rb with _ | v2
  · have HNU := Lib.hid (number_none HQ2.out HX2.out hnn2 w3 (HV.out.fr HMw3.out.fr))
    refine HNU.out.mono ?_
    rintro e w4c ⟨rfl, hFc⟩
    have HMc := Lib.hid (HMw3.out.no hFc)
    have HR := Lib.hid (show readO (u :: ra :: rb :: rc :: r2) = (ov0, 0, 163) by rw [HRO.out]; unfold layO; simp [hnn2])
    clear o0 o1 o2 o3 o4 of z0 z1 z2 z3 z4 zf c2
    obtain ⟨o0, o1, o2, o3, o4, of⟩ := Bk.five HMc.out.o
    have HMd := Lib.hid (HMc.out.set3 0)
    obtain ⟨z0, z1, z2, z3, z4, zf⟩ := Bk.five HMd.out.z
    clear hFc
    go_wp2
    refine bodyPost_ret (v := .tuple #[.agg #[.int .i64 0, .string ⟨#[]⟩, .string ⟨#[]⟩, .int .i64 0, .int .i64 0], .int .i64 0, .int .i64 163]) (by simp [results, Tryd.results25, go_sem, z0, z1, z2, z3, z4, zf]) rfl ⟨by rw [HR.out]; rfl, ?_⟩
    iterate 5 (refine Fr.set ?_ (.inr (by simp)) _)
    exact HMd.out.fr
  have HNU := Lib.hid (number_some HQ2.out HX2.out hnn2 w3 (HV.out.fr HMw3.out.fr))
  have HNN2 := Lib.hid hnn2
  refine HNU.out.mono ?_
  rintro e w4c ⟨rfl, hFc⟩
  have HMc2 := Lib.hid (HMw3.out.no hFc)
  clear o0 o1 o2 o3 o4 of z0 z1 z2 z3 z4 zf c2 hFc HNU
  obtain ⟨o0, o1, o2, o3, o4, of⟩ := Bk.five HMc2.out.o
  go_upto_region 24 with (fail)
  have HMw5 := Lib.hid (HMc2.out.set3 (v2 : Int))
  generalize w4c.setCell ⟨bo, 3, none⟩ (.int .i64 (v2 : Int)) = w5 at *
  clear o0 o1 o2 o3 o4 of
  obtain ⟨o0, o1, o2, o3, o4, of⟩ := Bk.five HMw5.out.o
  obtain ⟨z0, z1, z2, z3, z4, zf⟩ := Bk.five HMw5.out.z
  go_wp2
  have c3 := TR.here HT.out HMw5.out.fr (j := 3) (by simp) (by omega) HQ3.out
  rw [rounds_succ]
  go_wp2_with fail
  rcases hnn3 : numL rc with _ | v3
  · have HNU := Lib.hid (number_none HQ3.out HX3.out hnn3 w5 (HV.out.fr HMw5.out.fr))
    refine HNU.out.mono ?_
    rintro e w6c ⟨rfl, hFc⟩
    have HMc := Lib.hid (HMw5.out.no hFc)
    have HR := Lib.hid (show readO (u :: ra :: rb :: rc :: r2) = (ov0, 0, 163) by rw [HRO.out]; unfold layO; simp [hnn3, hnn2])
    clear o0 o1 o2 o3 o4 of z0 z1 z2 z3 z4 zf c3
    obtain ⟨o0, o1, o2, o3, o4, of⟩ := Bk.five HMc.out.o
    have HMd := Lib.hid (HMc.out.set4 0)
    obtain ⟨z0, z1, z2, z3, z4, zf⟩ := Bk.five HMd.out.z
    clear hFc
    go_wp2
    refine bodyPost_ret (v := .tuple #[.agg #[.int .i64 0, .string ⟨#[]⟩, .string ⟨#[]⟩, .int .i64 0, .int .i64 0], .int .i64 0, .int .i64 163]) (by simp [results, Tryd.results25, go_sem, z0, z1, z2, z3, z4, zf]) rfl ⟨by rw [HR.out]; rfl, ?_⟩
    iterate 5 (refine Fr.set ?_ (.inr (by simp)) _)
    exact HMd.out.fr
  have HNU := Lib.hid (number_some HQ3.out HX3.out hnn3 w5 (HV.out.fr HMw5.out.fr))
  have HNN3 := Lib.hid hnn3
  refine HNU.out.mono ?_
  rintro e w6c ⟨rfl, hFc⟩
  have HMc3 := Lib.hid (HMw5.out.no hFc)
  clear o0 o1 o2 o3 o4 of z0 z1 z2 z3 z4 zf c3 hFc HNU
  obtain ⟨o0, o1, o2, o3, o4, of⟩ := Bk.five HMc3.out.o
  go_upto_region 24 with (fail)
  have HMw7 := Lib.hid (HMc3.out.set4 (v3 : Int))
  generalize w6c.setCell ⟨bo, 4, none⟩ (.int .i64 (v3 : Int)) = w7 at *
  clear o0 o1 o2 o3 o4 of
  obtain ⟨o0, o1, o2, o3, o4, of⟩ := Bk.five HMw7.out.o
  obtain ⟨z0, z1, z2, z3, z4, zf⟩ := Bk.five HMw7.out.z
  go_wp2
  rw [rounds_succ]
  have HRO := Lib.hid (show readO (u :: ra :: rb :: rc :: r2) = if chkO ⟨6, ra, [], (v2 : Int), (v3 : Int)⟩ ≠ 0 then (ov0, 0, chkO ⟨6, ra, [], (v2 : Int), (v3 : Int)⟩) else (⟨6, ra, [], (v2 : Int), (v3 : Int)⟩, 4, 0) by rw [HRO.out]; unfold layO manyK; simp [HNN2.out, HNN3.out])
  have HCK := Lib.hid (fun W => wCheck6 ⟨6, ra, [], (v2 : Int), (v3 : Int)⟩ rfl W)
  obtain ⟨rr, hrr⟩ : ∃ rr, chkO ⟨6, ra, [], (v2 : Int), (v3 : Int)⟩ = rr := ⟨_, rfl⟩
  rw [hrr] at HCK HRO
  unfold OV.v sv at HCK
  dsimp only at HCK
  rw [HQ1.out] at HCK
  clear hrr
  go_wp2_with fail
  refine (HCK.out _).mono ?_
  rintro e wk ⟨rfl, hFk⟩
  have HMk := Lib.hid (HMw7.out.no hFk)
  clear o0 o1 o2 o3 o4 of z0 z1 z2 z3 z4 zf hFk HCK
  obtain ⟨o0, o1, o2, o3, o4, of⟩ := Bk.five HMk.out.o
  obtain ⟨z0, z1, z2, z3, z4, zf⟩ := Bk.five HMk.out.z
  by_cases hz : rr = 0
  · subst hz
    have HR := Lib.hid (show readO (u :: ra :: rb :: rc :: r2) = (⟨6, ra, [], (v2 : Int), (v3 : Int)⟩, 4, 0) by rw [HRO.out, if_neg (fun q => q rfl)])
    go_wp2
    refine bodyPost_ret (v := .tuple #[.agg #[.int .i64 6, .string q1, .string ⟨#[]⟩, .int .i64 (v2 : Int), .int .i64 (v3 : Int)], .int .i64 4, .int .i64 0]) (by simp [results, Tryd.results25, go_sem, z0, z1, z2, z3, z4, zf]) rfl ⟨?_, ?_⟩
    · rw [HR.out]
      unfold OV.v sv
      dsimp only
      rw [HQ1.out]
      try rfl
    · repeat (refine Fr.set ?_ (.inr (by simp)) _)
      exact HMk.out.fr
  · have HR := Lib.hid (show readO (u :: ra :: rb :: rc :: r2) = (ov0, 0, rr) by rw [HRO.out, if_pos hz])
    have e6 : (rr != 0) = true := by rw [bne_iff_ne]; exact hz
    go_wp2
    refine bodyPost_ret (v := .tuple #[.agg #[.int .i64 0, .string ⟨#[]⟩, .string ⟨#[]⟩, .int .i64 0, .int .i64 0], .int .i64 0, .int .i64 rr]) (by simp [results, Tryd.results25, go_sem, z0, z1, z2, z3, z4, zf]) rfl ⟨by rw [HR.out]; rfl, ?_⟩
    repeat (refine Fr.set ?_ (.inr (by simp)) _)
    exact HMk.out.fr
set_option maxHeartbeats 8000000 in
set_option maxRecDepth 100000 in
theorem wReadO7 (A : Option Addr) (n c : Nat) (u : List UInt8) (r : List (List UInt8)) (hk : kindK u = 7) (hl : (u :: r).length = n) (hn : n ≤ 8796093022000) (hx : ∀ x ∈ u :: r, x.length ≤ 140737488351232) (w : World) (hT : TR Any w A (u :: r)) (hV : Vs w) (hC : Cf w) :
    Calls Tryd.prog 25 #[.slice A n c] w (Ro w (readO (u :: r))) := by
  have hz : kindZ u = 7 := by unfold kindZ; rw [hk]; rfl
  have HKO := Lib.hid (fun W (hW : Fr No w W) => wKindOf u W (hC.fr hW))
  rw [hz] at HKO
  have HRO := Lib.hid (show readO (u :: r) = if r.length + 1 < manyK 7 then (ov0, 0, 162) else match layO 7 r with | none => (ov0, 0, 163) | some o => if chkO o ≠ 0 then (ov0, 0, chkO o) else (o, manyK 7, 0) by
    unfold readO
    dsimp only
    rw [hk]; rfl)
  have hn0 : 0 < n := by rw [← hl]; simp
  have hn0i : (0 : Int) < (n : Int) := by omega
  have hne : ((n : Int) == 0) = false := by rw [beq_eq_false_iff_ne]; omega
  obtain ⟨ad, hA, hc0⟩ := hT.at_ 0 (by simp)
  subst hA
  obtain ⟨p0, hp0⟩ : ∃ p0 : ByteArray, (⟨u.toArray⟩ : ByteArray) = p0 := ⟨_, rfl⟩
  have hc0 : w.cell? ad = some (.string p0) := by have h := hc0; rw [← hp0]; exact h
  rw [hp0] at HKO
  have HT := Lib.hid hT
  have HV := Lib.hid hV
  have HC := Lib.hid hC
  have HL := Lib.hid hl
  have HX := Lib.hid hx
  have hcz := keepC ((Fr.refl No w).alloc ZO) hc0 id
  unfold ZO at hcz
  have hrl : r.length + 1 = n := by rw [← hl]; simp
  obtain ⟨m0, hm0⟩ : ∃ m0, r.length = m0 := ⟨_, rfl⟩
  have HM0 := Lib.hid hm0
  have hm0n : m0 + 1 = n := by omega
  have hw1 : IntKind.i64.wrap ((n : Int) - 1) = (m0 : Int) := by rw [IntWalk.i64_in _ (by omega)]; omega
  clear hk hz hT hV hC hl hx hp0 hm0 hrl
  go_enter Tryd.func25, Tryd.ntmps25
  go_wp2_with fail
  refine (HKO.out _ ((Fr.refl _ _).alloc _)).mono ?_
  rintro e w1 ⟨rfl, hF1⟩
  have HZ1 := Lib.hid (show Bk w1 w.heap.size 44 [.int .i64 0, .string ⟨#[]⟩, .string ⟨#[]⟩, .int .i64 0, .int .i64 0] from (Bk.new w 44 [.int .i64 0, .string ⟨#[]⟩, .string ⟨#[]⟩, .int .i64 0, .int .i64 0]).fr (S := No) hF1 id)
  have HF1 := Lib.hid (show Fr No w w1 from ((Fr.refl No w).alloc _).then_ hF1)
  have h1s : w.heap.size < w1.heap.size := HZ1.out.lt
  obtain ⟨w2, hw2⟩ : ∃ w2, w1.alloc (.cells #[.int .i64 7, .string ⟨#[]⟩, .string ⟨#[]⟩, .int .i64 0, .int .i64 0] 44 (0, 0)) = w2 := ⟨_, rfl⟩
  obtain ⟨bo, hbo⟩ : ∃ bo, w1.heap.size = bo := ⟨_, rfl⟩
  have HM2 := Lib.hid (show MidO w w2 bo 7 ⟨#[]⟩ ⟨#[]⟩ 0 0 by
    rw [← hw2, ← hbo]
    exact ⟨HZ1.out.alloc _, Bk.new w1 44 [.int .i64 7, .string ⟨#[]⟩, .string ⟨#[]⟩, .int .i64 0, .int .i64 0], HF1.out.alloc _, h1s⟩)
  have HW2 := Lib.hid hw2
  have HBO := Lib.hid hbo
  clear hF1 HKO hw2 hbo hcz
  go_upto_region 4 with (fail)
  rw [HW2.out, HBO.out]
  clear HW2 HBO h1s
  have hfw : w2.cell? ⟨1, 15, none⟩ = some (.string ⟨#[110]⟩) := (HC.out.fr HM2.out.fr).at_ 15 (by omega)
  obtain ⟨o0, o1, o2, o3, o4, of⟩ := Bk.five HM2.out.o
  obtain ⟨z0, z1, z2, z3, z4, zf⟩ := Bk.five HM2.out.z
  by_cases hfew : m0 < 1
  · have e1 : decide ((m0 : Int) < 1) = true := decide_eq_true (by omega)
    have e1' : decide (m0 < 1) = true := decide_eq_true hfew
    have HR := Lib.hid (show readO (u :: r) = (ov0, 0, 162) by rw [HRO.out, if_pos (by have := HM0.out; unfold manyK; simp; try omega)])
    go_wp2
    refine bodyPost_ret (v := .tuple #[.agg #[.int .i64 0, .string ⟨#[]⟩, .string ⟨#[]⟩, .int .i64 0, .int .i64 0], .int .i64 0, .int .i64 162]) (by simp [results, Tryd.results25, go_sem, z0, z1, z2, z3, z4, zf]) rfl ⟨by rw [HR.out]; rfl, ?_⟩
    repeat (refine Fr.set ?_ (.inr (by simp)) _)
    exact HM2.out.fr
  have e1 : decide ((m0 : Int) < 1) = false := decide_eq_false (by omega)
  have e1' : decide (m0 < 1) = false := decide_eq_false hfew
  have HRO := Lib.hid (show readO (u :: r) = match layO 7 r with | none => (ov0, 0, 163) | some o => if chkO o ≠ 0 then (ov0, 0, chkO o) else (o, manyK 7, 0) by rw [HRO.out, if_neg (by have := HM0.out; unfold manyK; simp; try omega)])
  obtain ⟨ra, r2, rfl⟩ : ∃ ra r2, r = ra :: r2 := by
    have hm := HM0.out
    match r, hm with
    | ra :: r2, _ => exact ⟨ra, r2, rfl⟩
    | [], hm => simp at hm; omega
  obtain ⟨q1, hq1⟩ : ∃ q : ByteArray, (⟨ra.toArray⟩ : ByteArray) = q := ⟨_, rfl⟩
  have HQ1 := Lib.hid hq1
  have h1n : (1 : Int) < (n : Int) := by omega
  have h1n' : 1 < n := by omega
  have HX1 := Lib.hid (HX.out ra (by simp))
  clear hq1
  go_wp2
  refine wp_loop_rounds 2 ?_
  have c1 := TR.here HT.out HM2.out.fr (j := 1) (by simp) (by omega) HQ1.out
  rw [rounds_succ]
  go_upto_region 24 with (fail)
  have HMw3 := Lib.hid (HM2.out.set1 q1)
  generalize w2.setCell ⟨bo, 1, none⟩ (.string q1) = w3 at *
  clear o0 o1 o2 o3 o4 of z0 z1 z2 z3 z4 zf c1
  obtain ⟨o0, o1, o2, o3, o4, of⟩ := Bk.five HMw3.out.o
  obtain ⟨z0, z1, z2, z3, z4, zf⟩ := Bk.five HMw3.out.z
  go_wp2
  rw [rounds_succ]
  have HRO := Lib.hid (show readO (u :: ra :: r2) = if chkO ⟨7, ra, [], 0, 0⟩ ≠ 0 then (ov0, 0, chkO ⟨7, ra, [], 0, 0⟩) else (⟨7, ra, [], 0, 0⟩, 2, 0) by rw [HRO.out]; unfold layO manyK; simp [])
  have HCK := Lib.hid (fun W => wCheck7 ⟨7, ra, [], 0, 0⟩ rfl W)
  obtain ⟨rr, hrr⟩ : ∃ rr, chkO ⟨7, ra, [], 0, 0⟩ = rr := ⟨_, rfl⟩
  rw [hrr] at HCK HRO
  unfold OV.v sv at HCK
  dsimp only at HCK
  rw [HQ1.out] at HCK
  clear hrr
  go_wp2_with fail
  refine (HCK.out _).mono ?_
  rintro e wk ⟨rfl, hFk⟩
  have HMk := Lib.hid (HMw3.out.no hFk)
  clear o0 o1 o2 o3 o4 of z0 z1 z2 z3 z4 zf hFk HCK
  obtain ⟨o0, o1, o2, o3, o4, of⟩ := Bk.five HMk.out.o
  obtain ⟨z0, z1, z2, z3, z4, zf⟩ := Bk.five HMk.out.z
  by_cases hz : rr = 0
  · subst hz
    have HR := Lib.hid (show readO (u :: ra :: r2) = (⟨7, ra, [], 0, 0⟩, 2, 0) by rw [HRO.out, if_neg (fun q => q rfl)])
    go_wp2
    refine bodyPost_ret (v := .tuple #[.agg #[.int .i64 7, .string q1, .string ⟨#[]⟩, .int .i64 0, .int .i64 0], .int .i64 2, .int .i64 0]) (by simp [results, Tryd.results25, go_sem, z0, z1, z2, z3, z4, zf]) rfl ⟨?_, ?_⟩
    · rw [HR.out]
      unfold OV.v sv
      dsimp only
      rw [HQ1.out]
      try rfl
    · repeat (refine Fr.set ?_ (.inr (by simp)) _)
      exact HMk.out.fr
  · have HR := Lib.hid (show readO (u :: ra :: r2) = (ov0, 0, rr) by rw [HRO.out, if_pos hz])
    have e6 : (rr != 0) = true := by rw [bne_iff_ne]; exact hz
    go_wp2
    refine bodyPost_ret (v := .tuple #[.agg #[.int .i64 0, .string ⟨#[]⟩, .string ⟨#[]⟩, .int .i64 0, .int .i64 0], .int .i64 0, .int .i64 rr]) (by simp [results, Tryd.results25, go_sem, z0, z1, z2, z3, z4, zf]) rfl ⟨by rw [HR.out]; rfl, ?_⟩
    repeat (refine Fr.set ?_ (.inr (by simp)) _)
    exact HMk.out.fr
set_option maxHeartbeats 8000000 in
set_option maxRecDepth 100000 in
theorem wReadO8 (A : Option Addr) (n c : Nat) (u : List UInt8) (r : List (List UInt8)) (hk : kindK u = 8) (hl : (u :: r).length = n) (hn : n ≤ 8796093022000) (hx : ∀ x ∈ u :: r, x.length ≤ 140737488351232) (w : World) (hT : TR Any w A (u :: r)) (hV : Vs w) (hC : Cf w) :
    Calls Tryd.prog 25 #[.slice A n c] w (Ro w (readO (u :: r))) := by
  have hz : kindZ u = 8 := by unfold kindZ; rw [hk]; rfl
  have HKO := Lib.hid (fun W (hW : Fr No w W) => wKindOf u W (hC.fr hW))
  rw [hz] at HKO
  have HRO := Lib.hid (show readO (u :: r) = if r.length + 1 < manyK 8 then (ov0, 0, 162) else match layO 8 r with | none => (ov0, 0, 163) | some o => if chkO o ≠ 0 then (ov0, 0, chkO o) else (o, manyK 8, 0) by
    unfold readO
    dsimp only
    rw [hk]; rfl)
  have hn0 : 0 < n := by rw [← hl]; simp
  have hn0i : (0 : Int) < (n : Int) := by omega
  have hne : ((n : Int) == 0) = false := by rw [beq_eq_false_iff_ne]; omega
  obtain ⟨ad, hA, hc0⟩ := hT.at_ 0 (by simp)
  subst hA
  obtain ⟨p0, hp0⟩ : ∃ p0 : ByteArray, (⟨u.toArray⟩ : ByteArray) = p0 := ⟨_, rfl⟩
  have hc0 : w.cell? ad = some (.string p0) := by have h := hc0; rw [← hp0]; exact h
  rw [hp0] at HKO
  have HT := Lib.hid hT
  have HV := Lib.hid hV
  have HC := Lib.hid hC
  have HL := Lib.hid hl
  have HX := Lib.hid hx
  have hcz := keepC ((Fr.refl No w).alloc ZO) hc0 id
  unfold ZO at hcz
  have hrl : r.length + 1 = n := by rw [← hl]; simp
  obtain ⟨m0, hm0⟩ : ∃ m0, r.length = m0 := ⟨_, rfl⟩
  have HM0 := Lib.hid hm0
  have hm0n : m0 + 1 = n := by omega
  have hw1 : IntKind.i64.wrap ((n : Int) - 1) = (m0 : Int) := by rw [IntWalk.i64_in _ (by omega)]; omega
  clear hk hz hT hV hC hl hx hp0 hm0 hrl
  go_enter Tryd.func25, Tryd.ntmps25
  go_wp2_with fail
  refine (HKO.out _ ((Fr.refl _ _).alloc _)).mono ?_
  rintro e w1 ⟨rfl, hF1⟩
  have HZ1 := Lib.hid (show Bk w1 w.heap.size 44 [.int .i64 0, .string ⟨#[]⟩, .string ⟨#[]⟩, .int .i64 0, .int .i64 0] from (Bk.new w 44 [.int .i64 0, .string ⟨#[]⟩, .string ⟨#[]⟩, .int .i64 0, .int .i64 0]).fr (S := No) hF1 id)
  have HF1 := Lib.hid (show Fr No w w1 from ((Fr.refl No w).alloc _).then_ hF1)
  have h1s : w.heap.size < w1.heap.size := HZ1.out.lt
  obtain ⟨w2, hw2⟩ : ∃ w2, w1.alloc (.cells #[.int .i64 8, .string ⟨#[]⟩, .string ⟨#[]⟩, .int .i64 0, .int .i64 0] 44 (0, 0)) = w2 := ⟨_, rfl⟩
  obtain ⟨bo, hbo⟩ : ∃ bo, w1.heap.size = bo := ⟨_, rfl⟩
  have HM2 := Lib.hid (show MidO w w2 bo 8 ⟨#[]⟩ ⟨#[]⟩ 0 0 by
    rw [← hw2, ← hbo]
    exact ⟨HZ1.out.alloc _, Bk.new w1 44 [.int .i64 8, .string ⟨#[]⟩, .string ⟨#[]⟩, .int .i64 0, .int .i64 0], HF1.out.alloc _, h1s⟩)
  have HW2 := Lib.hid hw2
  have HBO := Lib.hid hbo
  clear hF1 HKO hw2 hbo hcz
  go_upto_region 4 with (fail)
  rw [HW2.out, HBO.out]
  clear HW2 HBO h1s
  have hfw : w2.cell? ⟨1, 17, none⟩ = some (.string ⟨#[]⟩) := (HC.out.fr HM2.out.fr).at_ 17 (by omega)
  obtain ⟨o0, o1, o2, o3, o4, of⟩ := Bk.five HM2.out.o
  obtain ⟨z0, z1, z2, z3, z4, zf⟩ := Bk.five HM2.out.z
  have e1 : decide ((m0 : Int) < 0) = false := decide_eq_false (by omega)
  have e1' : decide (m0 < 0) = false := decide_eq_false (by omega)
  have HRO := Lib.hid (show readO (u :: r) = match layO 8 r with | none => (ov0, 0, 163) | some o => if chkO o ≠ 0 then (ov0, 0, chkO o) else (o, manyK 8, 0) by rw [HRO.out, if_neg (by have := HM0.out; unfold manyK; simp; try omega)])
  go_wp2
  refine wp_loop_rounds 1 ?_
  rw [rounds_succ]
  have HRO := Lib.hid (show readO (u :: r) = if chkO ⟨8, [], [], 0, 0⟩ ≠ 0 then (ov0, 0, chkO ⟨8, [], [], 0, 0⟩) else (⟨8, [], [], 0, 0⟩, 1, 0) by rw [HRO.out]; rfl)
  have HCK := Lib.hid (fun W => wCheck8 ⟨8, [], [], 0, 0⟩ rfl W)
  obtain ⟨rr, hrr⟩ : ∃ rr, chkO ⟨8, [], [], 0, 0⟩ = rr := ⟨_, rfl⟩
  rw [hrr] at HCK HRO
  unfold OV.v sv at HCK
  dsimp only at HCK
  clear hrr
  go_wp2_with fail
  refine (HCK.out _).mono ?_
  rintro e wk ⟨rfl, hFk⟩
  have HMk := Lib.hid (HM2.out.no hFk)
  clear o0 o1 o2 o3 o4 of z0 z1 z2 z3 z4 zf hFk HCK
  obtain ⟨o0, o1, o2, o3, o4, of⟩ := Bk.five HMk.out.o
  obtain ⟨z0, z1, z2, z3, z4, zf⟩ := Bk.five HMk.out.z
  by_cases hz : rr = 0
  · subst hz
    have HR := Lib.hid (show readO (u :: r) = (⟨8, [], [], 0, 0⟩, 1, 0) by rw [HRO.out, if_neg (fun q => q rfl)])
    go_wp2
    refine bodyPost_ret (v := .tuple #[.agg #[.int .i64 8, .string ⟨#[]⟩, .string ⟨#[]⟩, .int .i64 0, .int .i64 0], .int .i64 1, .int .i64 0]) (by simp [results, Tryd.results25, go_sem, z0, z1, z2, z3, z4, zf]) rfl ⟨?_, ?_⟩
    · rw [HR.out]
      unfold OV.v sv
      dsimp only
      skip
      try rfl
    · repeat (refine Fr.set ?_ (.inr (by simp)) _)
      exact HMk.out.fr
  · have HR := Lib.hid (show readO (u :: r) = (ov0, 0, rr) by rw [HRO.out, if_pos hz])
    have e6 : (rr != 0) = true := by rw [bne_iff_ne]; exact hz
    go_wp2
    refine bodyPost_ret (v := .tuple #[.agg #[.int .i64 0, .string ⟨#[]⟩, .string ⟨#[]⟩, .int .i64 0, .int .i64 0], .int .i64 0, .int .i64 rr]) (by simp [results, Tryd.results25, go_sem, z0, z1, z2, z3, z4, zf]) rfl ⟨by rw [HR.out]; rfl, ?_⟩
    repeat (refine Fr.set ?_ (.inr (by simp)) _)
    exact HMk.out.fr
end Go.Proofs.YtdhlbdllidfenaaDoor.Wd
