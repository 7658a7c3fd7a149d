/- Words: what ReadResult answers: walked. Conditions: the codes' words and the library's tables lie as the program's text lays them. -/
import Derived.Test.YtdhlbdllidfenaaDoorReC
import Derived.Test.YtdhlbdllidfenaaDoorBkI
import Derived.LoopN
namespace Go.Proofs.YtdhlbdllidfenaaDoor.Wd
open Go.RowKit Go.Proofs.YtdhlbdllidfenaaDoor.Mem
open Go.Proofs.YtdhlbdllidfenaaDoor.Nu (numL numE wNumber rNumber Vs num_dec num_is)
set_option linter.unusedVariables false
set_option linter.unusedSimpArgs false
/-- what ReadResult answers -/
def Rd (w0 : World) (R : RV × Nat × Int) (e : Ending) (w' : World) : Prop := ∃ A c rb, e = .returned (.tuple #[R.1.v A R.1.items.length c, .int .i64 (R.2.1 : Int), .int .i64 R.2.2]) ∧ TBuf w0 w' rb (.slice A R.1.items.length c) R.1.items
theorem codes_opaque : ∃ Q : Nat → ByteArray, (∀ k, k < 5 → (⟨(codesL.getD k []).toArray⟩ : ByteArray) = Q k) ∧ ∀ (w : World), Cd w → w.cell? ⟨0, 0, none⟩ = some (.string (Q 0)) ∧ w.cell? ⟨0, 1, none⟩ = some (.string (Q 1)) ∧ w.cell? ⟨0, 2, none⟩ = some (.string (Q 2)) ∧ w.cell? ⟨0, 3, none⟩ = some (.string (Q 3)) ∧ w.cell? ⟨0, 4, none⟩ = some (.string (Q 4)) :=
  ⟨fun k => ⟨(codesL.getD k []).toArray⟩, fun k _ => rfl, fun w h => ⟨h.at_ 0 (by omega), h.at_ 1 (by omega), h.at_ 2 (by omega), h.at_ 3 (by omega), h.at_ 4 (by omega)⟩⟩
theorem toList_yes {p q : ByteArray} (h : p = q) : (p.toList == q.toList) = true := by rw [h]; exact beq_self_eq_true _
theorem code_is {Q : Nat → ByteArray} (hQ : ∀ k, k < 5 → (⟨(codesL.getD k []).toArray⟩ : ByteArray) = Q k) {u : List UInt8} {p : ByteArray} (hp : (⟨u.toArray⟩ : ByteArray) = p) {k : Nat} (hk : k < 5) : Q k = p ↔ codesL.getD k [] = u := by
  rw [← hQ k hk, ← hp]; exact mk_inj
theorem code_ne {i j : Nat} (hi : i < 5) (hj : j < 5) (h : i ≠ j) : codesL.getD i [] ≠ codesL.getD j [] := by
  intro e
  have h1 := idx_at i hi
  rw [e, idx_at j hj] at h1
  omega
structure Mid (w W : World) (nb : Nat) (a b : Int) : Prop where
  z : Bk W w.heap.size 28 [.int .i64 0, .int .i64 0, .slice none 0 0]
  x : Bk W (w.heap.size + 1) 28 [.int .i64 0, .int .i64 0, .slice none 0 0]
  n : Bk W nb 59 [.int .i64 a, .int .i64 b]
  fr : Fr No w W
theorem Mid.fr1 {w W W' : World} {nb : Nat} {a b : Int} (h : Mid w W nb a b) (hf : Fr No W W') : Mid w W' nb a b := ⟨h.z.fr hf id, h.x.fr hf id, h.n.fr hf id, h.fr.then_ hf⟩
theorem Mid.nb_ge {w W : World} {nb : Nat} {a b : Int} (h : Mid w W nb a b) (h2 : w.heap.size ≤ nb) : nb ≠ w.heap.size ∧ nb ≠ w.heap.size + 1 := ⟨h.n.bt.ne h.z.bt (by decide), h.n.bt.ne h.x.bt (by decide)⟩
theorem Mid.set0 {w W : World} {nb : Nat} {a b : Int} (h : Mid w W nb a b) (hn : w.heap.size ≤ nb) (v : Int) : Mid w (W.setCell ⟨nb, 0, none⟩ (.int .i64 v)) nb v b :=
  ⟨h.z.far (fun e => (h.nb_ge hn).1 e.symm) _, h.x.far (fun e => (h.nb_ge hn).2 e.symm) _, h.n.set 0 _, h.fr.set (.inr hn) _⟩
theorem Mid.set1 {w W : World} {nb : Nat} {a b : Int} (h : Mid w W nb a b) (hn : w.heap.size ≤ nb) (v : Int) : Mid w (W.setCell ⟨nb, 1, none⟩ (.int .i64 v)) nb a v :=
  ⟨h.z.far (fun e => (h.nb_ge hn).1 e.symm) _, h.x.far (fun e => (h.nb_ge hn).2 e.symm) _, h.n.set 1 _, h.fr.set (.inr hn) _⟩
theorem TR.part {D : Nat → Prop} {w : World} {ad : Addr} {l : List (List UInt8)} (h : TR D w (some ad) l) (k m : Nat) : TR D w (some (ad.add k)) ((l.drop k).take m) := fun j u hj => by
  have hj2 : l[k + j]? = some u := by
    rw [List.getElem?_take] at hj
    split at hj
    · rwa [List.getElem?_drop] at hj
    · cases hj
  obtain ⟨ad', e, d, c⟩ := h (k + j) u hj2
  cases e
  exact ⟨_, rfl, by rw [add_block]; exact d, by rw [add_add]; exact c⟩
theorem run58 (q0 q1 q2 q3 q4 : ByteArray) (W : World) :
    (Instr.index 58 (.agg #[.string q0, .string q1, .string q2, .string q3, .string q4]) (.int .i64 0)).run Tryd.prog W = .ok (.string q0) W ∧
    (Instr.index 58 (.agg #[.string q0, .string q1, .string q2, .string q3, .string q4]) (.int .i64 1)).run Tryd.prog W = .ok (.string q1) W ∧
    (Instr.index 58 (.agg #[.string q0, .string q1, .string q2, .string q3, .string q4]) (.int .i64 2)).run Tryd.prog W = .ok (.string q2) W ∧
    (Instr.index 58 (.agg #[.string q0, .string q1, .string q2, .string q3, .string q4]) (.int .i64 3)).run Tryd.prog W = .ok (.string q3) W ∧
    (Instr.index 58 (.agg #[.string q0, .string q1, .string q2, .string q3, .string q4]) (.int .i64 4)).run Tryd.prog W = .ok (.string q4) W := by
  have hu : Tryd.prog.underlying 58 = some (.array 5 9) := by kernel_rfl
  have hel : Tryd.prog.elem 58 = 9 := by kernel_rfl
  refine ⟨?_, ?_, ?_, ?_, ?_⟩ <;> simp [Instr.index, run_underlying hu, asIntOf, go_sem]
theorem number_none {a : List UInt8} {p : ByteArray} (hp : (⟨a.toArray⟩ : ByteArray) = p) (ha : a.length ≤ 140737488351232) (h : numL a = none) (W : World) (hV : Vs W) : Calls Tryd.prog 8 #[.string p] W fun e w' => e = .returned (.tuple #[.int .i64 0, .bool false]) ∧ Fr No W w' := by
  have hs := sv_size hp
  have h1 := wNumber p (by omega) W hV
  rw [← hp, Nu.bs_of] at h1
  rw [← hp]
  unfold numE at h1
  rw [h] at h1
  exact h1
theorem number_some {a : List UInt8} {p : ByteArray} {n : Nat} (hp : (⟨a.toArray⟩ : ByteArray) = p) (ha : a.length ≤ 140737488351232) (h : numL a = some n) (W : World) (hV : Vs W) : Calls Tryd.prog 8 #[.string p] W fun e w' => e = .returned (.tuple #[.int .i64 (n : Int), .bool true]) ∧ Fr No W w' := by
  have hs := sv_size hp
  have h1 := wNumber p (by omega) W hV
  rw [← hp, Nu.bs_of] at h1
  rw [← hp]
  unfold numE at h1
  rw [h] at h1
  exact h1

set_option maxHeartbeats 8000000 in
set_option maxRecDepth 100000 in
theorem wReadR (A : Option Addr) (n c : Nat) (l : List (List UInt8)) (hl : l.length = n) (hlc : n ≤ c) (hn : n ≤ 8796093022000) (hx : ∀ x ∈ l, x.length ≤ 140737488351232) (w : World) (hT : TR Any w A l) (hV : Vs w) (hC : Cd w) :
    Calls Tryd.prog 16 #[.slice A n c] w (Rd w (readR l)) := by
  have HT := Lib.hid hT
  have HV := Lib.hid hV
  have HC := Lib.hid hC
  have HL := Lib.hid hl
  have HX := Lib.hid hx
  clear hT hV hC hx
  match l, hl with
  | [], hl =>
    obtain rfl : n = 0 := hl.symm
    go_enter Tryd.func16, Tryd.ntmps16
    go_wp2
    refine bodyPost_ret (v := .tuple #[.agg #[.int .i64 0, .int .i64 0, .slice none 0 0], .int .i64 0, .int .i64 162]) (by simp [results, Tryd.results16, go_sem]) rfl ⟨none, 0, none, rfl, ?_⟩
    refine TBuf.nil_ ?_
    repeat (refine Fr.set ?_ (.inr (by simp)) _)
    exact (Fr.refl _ _).alloc _
  | u :: r, hl =>
    have hn0 : 0 < n := by rw [← hl]; simp
    have hn0i : (0 : Int) < (n : Int) := by omega
    have hne : ((n : Int) == 0) = false := by rw [beq_eq_false_iff_ne]; omega
    obtain ⟨Q, hQ, hG⟩ := codes_opaque
    have HQ := Lib.hid hQ
    have HG := Lib.hid hG
    obtain ⟨ad, hA, hc0⟩ := HT.out.at_ 0 (by simp)
    subst hA
    obtain ⟨p0, hp0⟩ : ∃ p0 : ByteArray, (⟨u.toArray⟩ : ByteArray) = p0 := ⟨_, rfl⟩
    have HP0 := Lib.hid hp0
    have hc0 : w.cell? (ad.add 0) = some (.string p0) := by rw [hc0, ← hp0]; rfl
    have HAD := Lib.hid (show ad.block < w.heap.size by have := cell_lt hc0; rwa [add_block] at this)
    obtain ⟨w2, hw2⟩ : ∃ w2, (w.alloc (.cells #[.int .i64 0, .int .i64 0, .slice none 0 0] 28 (0, 0))).alloc (.cells #[.int .i64 (-1), .int .i64 0, .slice none 0 0] 28 (0, 0)) = w2 := ⟨_, rfl⟩
    have hF2 : Fr No w w2 := by rw [← hw2]; exact ((Fr.refl _ _).alloc _).alloc _
    have HF2 := Lib.hid hF2
    have HZ2 := Lib.hid (show Bk w2 w.heap.size 28 [.int .i64 0, .int .i64 0, .slice none 0 0] by rw [← hw2]; exact (Bk.new w 28 [.int .i64 0, .int .i64 0, .slice none 0 0]).alloc _)
    have HX2 := Lib.hid (show Bk w2 (w.heap.size + 1) 28 [.int .i64 (-1), .int .i64 0, .slice none 0 0] by
      rw [← hw2]
      have := Bk.new (w.alloc (.cells #[.int .i64 0, .int .i64 0, .slice none 0 0] 28 (0, 0))) 28 [.int .i64 (-1), .int .i64 0, .slice none 0 0]
      rwa [show (w.alloc (.cells #[.int .i64 0, .int .i64 0, .slice none 0 0] 28 (0, 0))).heap.size = w.heap.size + 1 by simp] at this)
    obtain ⟨z0, z1, z2, zf⟩ := HZ2.out.three
    obtain ⟨x0, x1, x2, xf⟩ := HX2.out.three
    have ca := keepC hF2 hc0 id
    have ca0 : w2.cell? ad = some (.string p0) := by rw [← ca]; rfl
    obtain ⟨g0, g1, g2, g3, g4⟩ := hG w2 (HC.out.fr hF2)
    have HS := Lib.hid (fun v => (Fr.refl (fun q => q = w.heap.size + 1) w2).set (p := ⟨w.heap.size + 1, 0, none⟩) (.inl rfl) (.int .i64 v))
    have HAX := Lib.hid (show ¬ ((ad.add 0).block = w.heap.size + 1) by have := HAD.out; rw [add_block]; omega)
    have HZX := Lib.hid (show ¬ (w.heap.size = w.heap.size + 1) by omega)
    have HW2 := Lib.hid hw2
    have ix0 := fun W => (run58 (Q 0) (Q 1) (Q 2) (Q 3) (Q 4) W).1
    have ix1 := fun W => (run58 (Q 0) (Q 1) (Q 2) (Q 3) (Q 4) W).2.1
    have ix2 := fun W => (run58 (Q 0) (Q 1) (Q 2) (Q 3) (Q 4) W).2.2.1
    have ix3 := fun W => (run58 (Q 0) (Q 1) (Q 2) (Q 3) (Q 4) W).2.2.2.1
    have ix4 := fun W => (run58 (Q 0) (Q 1) (Q 2) (Q 3) (Q 4) W).2.2.2.2
    clear hQ hG hl hp0 hF2 hw2
    rcases idx_codes u with ⟨hi, hno⟩ | ⟨j, hj5, hi, hju⟩
    · have HR := Lib.hid (read_neg (r := r) hi)
      have e0 := toList_ne (fun h => hno 0 (by omega) ((code_is HQ.out HP0.out (by omega)).1 h))
      have e1 := toList_ne (fun h => hno 1 (by omega) ((code_is HQ.out HP0.out (by omega)).1 h))
      have e2 := toList_ne (fun h => hno 2 (by omega) ((code_is HQ.out HP0.out (by omega)).1 h))
      have e3 := toList_ne (fun h => hno 3 (by omega) ((code_is HQ.out HP0.out (by omega)).1 h))
      have e4 := toList_ne (fun h => hno 4 (by omega) ((code_is HQ.out HP0.out (by omega)).1 h))
      clear hi hno HT HV HC HQ HG HP0 HX hc0
      go_enter Tryd.func16, Tryd.ntmps16
      go_upto_region 4 with (fail)
      rw [HW2.out]
      go_wp2
      refine wp_loop_rounds 6 ?_
      rw [rounds_succ]; go_wp2
      rw [rounds_succ]; go_wp2
      rw [rounds_succ]; go_wp2
      rw [rounds_succ]; go_wp2
      rw [rounds_succ]; go_wp2
      rw [rounds_succ]; go_wp2
      refine bodyPost_ret (v := .tuple #[.agg #[.int .i64 0, .int .i64 0, .slice none 0 0], .int .i64 0, .int .i64 163]) (by simp [results, Tryd.results16, go_sem, z0, z1, z2, zf]) rfl ⟨none, 0, none, by rw [HR.out]; rfl, ?_⟩
      rw [HR.out]
      refine TBuf.nil_ ?_
      repeat (refine Fr.set ?_ (.inr (by simp)) _)
      exact HF2.out
    · match j, hj5, hi, hju with

      | 0, hj5, hi, hju =>
        have hi : idxL codesL 0 u = 0 := hi
        have HI := Lib.hid hi
        have e0 := toList_yes ((code_is HQ.out HP0.out (k := 0) (by omega)).2 hju)
        have e1 := toList_ne (fun h => code_ne (i := 1) (j := 0) (by omega) (by omega) (by omega) (((code_is HQ.out HP0.out (by omega)).1 h).trans hju.symm))
        have e2 := toList_ne (fun h => code_ne (i := 2) (j := 0) (by omega) (by omega) (by omega) (((code_is HQ.out HP0.out (by omega)).1 h).trans hju.symm))
        have e3 := toList_ne (fun h => code_ne (i := 3) (j := 0) (by omega) (by omega) (by omega) (((code_is HQ.out HP0.out (by omega)).1 h).trans hju.symm))
        have e4 := toList_ne (fun h => code_ne (i := 4) (j := 0) (by omega) (by omega) (by omega) (((code_is HQ.out HP0.out (by omega)).1 h).trans hju.symm))
        have cb := keepC (HS.out 0) ca HAX.out
        have cb0 : (w2.setCell ⟨w.heap.size + 1, 0, none⟩ (.int .i64 0)).cell? ad = some (.string p0) := by rw [← cb]; rfl
        have HX3 := Lib.hid (show Bk (w2.setCell ⟨w.heap.size + 1, 0, none⟩ (.int .i64 0)) (w.heap.size + 1) 28 [.int .i64 0, .int .i64 0, .slice none 0 0] from HX2.out.set 0 _)
        have HZ3 := Lib.hid (HZ2.out.fr (HS.out 0) HZX.out)
        have HF3 := Lib.hid (show Fr No w (w2.setCell ⟨w.heap.size + 1, 0, none⟩ (.int .i64 0)) from HF2.out.set (.inr (by show w.heap.size ≤ w.heap.size + 1; omega)) _)
        obtain ⟨s0, s1, s2, sf⟩ := HX3.out.three
        obtain ⟨t0, t1, t2, tf⟩ := HZ3.out.three
        clear hi hju HQ HG HP0
        obtain ⟨w3, hw3⟩ : ∃ w3, (w2.setCell ⟨w.heap.size + 1, 0, none⟩ (.int .i64 0)).alloc (.cells #[.int .i64 0, .int .i64 0] 59 (0, 0)) = w3 := ⟨_, rfl⟩
        obtain ⟨nb, hnb⟩ : ∃ nb, w2.heap.size = nb := ⟨_, rfl⟩
        have HGE := Lib.hid (show w.heap.size ≤ nb by rw [← hnb]; exact HF2.out.size)
        have HM3 := Lib.hid (show Mid w w3 nb 0 0 by
          rw [← hw3, ← hnb]
          refine ⟨HZ3.out.alloc _, HX3.out.alloc _, ?_, HF3.out.alloc _⟩
          have := Bk.new (w2.setCell ⟨w.heap.size + 1, 0, none⟩ (.int .i64 0)) 59 [.int .i64 0, .int .i64 0]
          rwa [show (w2.setCell ⟨w.heap.size + 1, 0, none⟩ (.int .i64 0)).heap.size = w2.heap.size by simp [World.setCell]] at this)
        have HW3 := Lib.hid hw3
        have HNB := Lib.hid hnb
        have HAN := Lib.hid (fun k => show ¬ ((ad.add k).block = nb) by have := HAD.out; have := HGE.out; rw [add_block]; omega)
        clear hw3 hnb
        match r, HL, HT, HX with
        | [], HL, HT, HX =>
          obtain rfl : n = 1 := HL.out.symm
          have HR := Lib.hid (read_one HI.out)
          obtain ⟨y0, y1, y2, yf⟩ := HM3.out.z.three
          clear HT HV HC HX hc0
          go_enter Tryd.func16, Tryd.ntmps16
          go_upto_region 4 with (fail)
          rw [HW2.out]
          go_wp2
          refine wp_loop_rounds 6 ?_
          rw [rounds_succ]; go_wp2
          rw [rounds_succ]; go_wp2
          rw [rounds_succ]; go_wp2
          rw [rounds_succ]; go_wp2
          rw [rounds_succ]; go_wp2
          rw [rounds_succ]
          go_upto_region 15 with (fail)
          rw [HW3.out, HNB.out]
          go_wp2
          refine wp_loop_rounds 1 ?_
          rw [rounds_succ]; go_wp2
          refine bodyPost_ret (v := .tuple #[.agg #[.int .i64 0, .int .i64 0, .slice none 0 0], .int .i64 0, .int .i64 162]) (by simp [results, Tryd.results16, go_sem, y0, y1, y2, yf]) rfl ⟨none, 0, none, by rw [HR.out]; rfl, ?_⟩
          rw [HR.out]
          refine TBuf.nil_ ?_
          repeat (refine Fr.set ?_ (.inr (by simp)) _)
          exact HM3.out.fr
        | a :: r2, HL, HT, HX =>
          have hnl : r2.length + 2 = n := by rw [← HL.out]; simp
          have d2 : decide ((n : Int) < 2) = false := decide_eq_false (by omega)
          have d2' : decide (n < 2) = false := decide_eq_false (by omega)
          have h1n : (1 : Int) < (n : Int) := by omega
          have h1n' : 1 < n := by omega
          obtain ⟨pa, hpa⟩ : ∃ pa : ByteArray, (⟨a.toArray⟩ : ByteArray) = pa := ⟨_, rfl⟩
          have HPA := Lib.hid hpa
          obtain ⟨ad', hA', hc1⟩ := HT.out.at_ 1 (by simp)
          cases hA'
          have hc1 : w.cell? (ad.add 1) = some (.string pa) := by rw [hc1, ← hpa]; rfl
          have HC1 := Lib.hid hc1
          have hc13 : w3.cell? ⟨ad.block, ad.off + 1, none⟩ = some (.string pa) := by have h := keepC HM3.out.fr hc1 id; rw [← h]; rfl
          have HAL := Lib.hid (HX.out a (by simp))
          obtain ⟨y0, y1, y2, yf⟩ := HM3.out.z.three
          clear hpa
          rcases hna : numL a with _ | n1
          · have HR := Lib.hid (read_anone (r := r2) HI.out hna)
            have HNU := Lib.hid (fun W (hW : Fr No w W) => number_none HPA.out HAL.out hna W (HV.out.fr hW))
            clear hna hc0 y0 y1 y2 yf
            go_enter Tryd.func16, Tryd.ntmps16
            go_upto_region 4 with (fail)
            rw [HW2.out]
            go_wp2
            refine wp_loop_rounds 6 ?_
            rw [rounds_succ]; go_wp2
            rw [rounds_succ]; go_wp2
            rw [rounds_succ]; go_wp2
            rw [rounds_succ]; go_wp2
            rw [rounds_succ]; go_wp2
            rw [rounds_succ]
            go_upto_region 15 with (fail)
            rw [HW3.out, HNB.out]
            go_wp2
            refine wp_loop_rounds 1 ?_
            rw [rounds_succ]; go_wp2_with fail
            refine (HNU.out _ HM3.out.fr).mono ?_
            rintro e w4 ⟨rfl, hF4⟩
            have HM4 := Lib.hid (HM3.out.fr1 hF4)
            obtain ⟨y0, y1, y2, yf⟩ := HM4.out.z.three
            clear hF4 hc13
            go_wp2
            refine bodyPost_ret (v := .tuple #[.agg #[.int .i64 0, .int .i64 0, .slice none 0 0], .int .i64 0, .int .i64 163]) (by simp [results, Tryd.results16, go_sem, y0, y1, y2, yf]) rfl ⟨none, 0, none, by rw [HR.out]; rfl, ?_⟩
            rw [HR.out]
            refine TBuf.nil_ ?_
            repeat (refine Fr.set ?_ (.inr (by simp)) _)
            exact HM4.out.fr
          · have HNU := Lib.hid (fun W (hW : Fr No w W) => number_some HPA.out HAL.out hna W (HV.out.fr hW))
            have HNA := Lib.hid hna
            match r2, hnl, HL, HT, HX with
            | [], hnl, HL, HT, HX =>
              obtain rfl : n = 2 := hnl.symm
              have HR := Lib.hid (read_two HI.out hna)
              clear hna hc0 y0 y1 y2 yf d2 d2'
              go_enter Tryd.func16, Tryd.ntmps16
              go_upto_region 4 with (fail)
              rw [HW2.out]
              go_wp2
              refine wp_loop_rounds 6 ?_
              rw [rounds_succ]; go_wp2
              rw [rounds_succ]; go_wp2
              rw [rounds_succ]; go_wp2
              rw [rounds_succ]; go_wp2
              rw [rounds_succ]; go_wp2
              rw [rounds_succ]
              go_upto_region 15 with (fail)
              rw [HW3.out, HNB.out]
              go_wp2
              refine wp_loop_rounds 2 ?_
              rw [rounds_succ]; go_wp2_with fail
              refine (HNU.out _ HM3.out.fr).mono ?_
              rintro e w4 ⟨rfl, hF4⟩
              have HM4 := Lib.hid (HM3.out.fr1 hF4)
              have HM5 := Lib.hid (HM4.out.set0 HGE.out (n1 : Int))
              obtain ⟨y0, y1, yf⟩ := HM4.out.n.two
              obtain ⟨z0, z1, z2, zf⟩ := HM5.out.z.three
              clear hF4 hc13
              go_wp2
              rw [rounds_succ]; go_wp2
              refine bodyPost_ret (v := .tuple #[.agg #[.int .i64 0, .int .i64 0, .slice none 0 0], .int .i64 0, .int .i64 162]) (by simp [results, Tryd.results16, go_sem, z0, z1, z2, zf]) rfl ⟨none, 0, none, by rw [HR.out]; rfl, ?_⟩
              rw [HR.out]
              refine TBuf.nil_ ?_
              iterate 3 (refine Fr.set ?_ (.inr (by simp)) _)
              exact HM5.out.fr
            | b :: r3, hnl, HL, HT, HX =>
              have hnl : r3.length + 3 = n := by rw [← hnl]; simp
              have d3 : decide ((n : Int) < 3) = false := decide_eq_false (by omega)
              have d3' : decide (n < 3) = false := decide_eq_false (by omega)
              have h2n : (2 : Int) < (n : Int) := by omega
              have h2n' : 2 < n := by omega
              obtain ⟨pb, hpb⟩ : ∃ pb : ByteArray, (⟨b.toArray⟩ : ByteArray) = pb := ⟨_, rfl⟩
              have HPB := Lib.hid hpb
              obtain ⟨ad', hA', hc2⟩ := HT.out.at_ 2 (by simp)
              cases hA'
              have hc2 : w.cell? (ad.add 2) = some (.string pb) := by rw [hc2, ← hpb]; rfl
              have HC2 := Lib.hid hc2
              have HBL := Lib.hid (HX.out b (by simp))
              clear hpb hna hc0 y0 y1 y2 yf hc2
              go_enter Tryd.func16, Tryd.ntmps16
              go_upto_region 4 with (fail)
              rw [HW2.out]
              go_wp2
              refine wp_loop_rounds 6 ?_
              rw [rounds_succ]; go_wp2
              rw [rounds_succ]; go_wp2
              rw [rounds_succ]; go_wp2
              rw [rounds_succ]; go_wp2
              rw [rounds_succ]; go_wp2
              rw [rounds_succ]
              go_upto_region 15 with (fail)
              rw [HW3.out, HNB.out]
              go_wp2
              refine wp_loop_rounds 3 ?_
              rw [rounds_succ]; go_wp2_with fail
              refine (HNU.out _ HM3.out.fr).mono ?_
              rintro e w4 ⟨rfl, hF4⟩
              have HM4 := Lib.hid (HM3.out.fr1 hF4)
              have HM5 := Lib.hid (HM4.out.set0 HGE.out (n1 : Int))
              obtain ⟨y0, y1, yf⟩ := HM4.out.n.two
              have hc25 : (w4.setCell ⟨nb, 0, none⟩ (.int .i64 (n1 : Int))).cell? ⟨ad.block, ad.off + 2, none⟩ = some (.string pb) := by have h := keepC HM5.out.fr HC2.out id; rw [← h]; rfl
              clear hF4 hc13
              rcases hnb2 : numL b with _ | m
              · have HR := Lib.hid (read_bnone (r := r3) HI.out HNA.out hnb2)
                have HNU2 := Lib.hid (fun W (hW : Fr No w W) => number_none HPB.out HBL.out hnb2 W (HV.out.fr hW))
                clear hnb2
                go_wp2
                rw [rounds_succ]; go_wp2_with fail
                refine (HNU2.out _ HM5.out.fr).mono ?_
                rintro e w6 ⟨rfl, hF6⟩
                have HM6 := Lib.hid (HM5.out.fr1 hF6)
                obtain ⟨z0, z1, z2, zf⟩ := HM6.out.z.three
                clear hF6 hc25 y0 y1 yf
                go_wp2
                refine bodyPost_ret (v := .tuple #[.agg #[.int .i64 0, .int .i64 0, .slice none 0 0], .int .i64 0, .int .i64 163]) (by simp [results, Tryd.results16, go_sem, z0, z1, z2, zf]) rfl ⟨none, 0, none, by rw [HR.out]; rfl, ?_⟩
                rw [HR.out]
                refine TBuf.nil_ ?_
                repeat (refine Fr.set ?_ (.inr (by simp)) _)
                exact HM6.out.fr
              · have HRF := Lib.hid (read_full (r := r3) HI.out HNA.out hnb2)
                have HNU2 := Lib.hid (fun W (hW : Fr No w W) => number_some HPB.out HBL.out hnb2 W (HV.out.fr hW))
                have hmb : m ≤ 9223372036854775807 := (Nu.num_some hnb2).2.2
                have hn1b : n1 ≤ 9223372036854775807 := (Nu.num_some HNA.out).2.2
                clear hnb2
                go_wp2
                rw [rounds_succ]; go_wp2_with fail
                refine (HNU2.out _ HM5.out.fr).mono ?_
                rintro e w6 ⟨rfl, hF6⟩
                have HM6 := Lib.hid (HM5.out.fr1 hF6)
                have HM7 := Lib.hid (HM6.out.set1 HGE.out (m : Int))
                obtain ⟨v0, v1, vf⟩ := HM6.out.n.two
                clear hF6 hc25 y0 y1 yf
                go_wp2
                rw [rounds_succ]
                go_upto_region 25 with (fail)
                generalize w6.setCell ⟨nb, 1, none⟩ (.int .i64 (m : Int)) = w7 at *
                clear v0 v1 vf
                obtain ⟨y0, y1, yf⟩ := HM7.out.n.two
                obtain ⟨s0, s1, s2, sf⟩ := HM7.out.x.three
                have hwq : IntKind.i64.wrap ((n : Int) - 3) = (r3.length : Int) := by rw [IntWalk.i64_in _ (by omega)]; omega
                by_cases hfew : r3.length < m
                · have HR := Lib.hid (show readR (u :: a :: b :: r3) = (rv0, 0, 162) by rw [HRF.out, if_pos hfew])
                  have e5 : decide ((r3.length : Int) < (m : Int)) = true := decide_eq_true (by omega)
                  have e5' : decide (r3.length < m) = true := decide_eq_true hfew
                  obtain ⟨z0, z1, z2, zf⟩ := HM7.out.z.three
                  clear HRF
                  go_wp2
                  refine bodyPost_ret (v := .tuple #[.agg #[.int .i64 0, .int .i64 0, .slice none 0 0], .int .i64 0, .int .i64 162]) (by simp [results, Tryd.results16, go_sem, z0, z1, z2, zf]) rfl ⟨none, 0, none, by rw [HR.out]; rfl, ?_⟩
                  rw [HR.out]
                  refine TBuf.nil_ ?_
                  repeat (refine Fr.set ?_ (.inr (by simp)) _)
                  exact HM7.out.fr
                · have e5 : decide ((r3.length : Int) < (m : Int)) = false := decide_eq_false (by omega)
                  have e5' : decide (r3.length < m) = false := decide_eq_false hfew
                  obtain ⟨items, hit⟩ : ∃ items, r3.take m = items := ⟨_, rfl⟩
                  have HIT := Lib.hid (show items.length = m by rw [← hit, List.length_take]; omega)
                  have HRF2 := Lib.hid (show readR (u :: a :: b :: r3) = if chkR ⟨0, (n1 : Int), items⟩ ≠ 0 then (rv0, 0, chkR ⟨0, (n1 : Int), items⟩) else (⟨0, (n1 : Int), items⟩, 3 + m, 0) by rw [HRF.out, if_neg hfew, hit])
                  obtain ⟨t, ht⟩ : ∃ t, 3 + m = t := ⟨_, rfl⟩
                  have hwt : IntKind.i64.wrap (3 + (m : Int)) = (t : Int) := by rw [IntWalk.i64_in _ (by omega)]; omega
                  have h3t : 3 ≤ t := by omega
                  have htc : t ≤ c := by omega
                  have h3ti : (3 : Int) ≤ (t : Int) := by omega
                  have htci : (t : Int) ≤ (c : Int) := by omega
                  have htm : t - 3 = m := by omega
                  have HTT := Lib.hid ht
                  have HPT := Lib.hid (fun W (hW : Fr No w W) => show TR Any W (some ⟨ad.block, ad.off + 3, none⟩) items by
                    have h := ((HT.out.fr hW (fun _ _ _ q => q)) : TR Any W (some ad) (u :: a :: b :: r3)).part 3 m
                    rw [← hit, show (⟨ad.block, ad.off + 3, none⟩ : Addr) = ad.add 3 from rfl]; exact h)
                  have HX8 := Lib.hid (show Bk (w7.setCell ⟨w.heap.size + 1, 1, none⟩ (.int .i64 (n1 : Int))) (w.heap.size + 1) 28 [.int .i64 0, .int .i64 (n1 : Int), .slice none 0 0] from HM7.out.x.set 1 _)
                  have HZ8 := Lib.hid (show Bk (w7.setCell ⟨w.heap.size + 1, 1, none⟩ (.int .i64 (n1 : Int))) w.heap.size 28 [.int .i64 0, .int .i64 0, .slice none 0 0] from HM7.out.z.far (by show w.heap.size ≠ w.heap.size + 1; omega) _)
                  have HF8 := Lib.hid (show Fr No w (w7.setCell ⟨w.heap.size + 1, 1, none⟩ (.int .i64 (n1 : Int))) from HM7.out.fr.set (.inr (by show w.heap.size ≤ w.heap.size + 1; omega)) _)
                  clear HRF ht hit
                  go_upto_region 29 with (fail)
                  generalize w7.setCell ⟨w.heap.size + 1, 1, none⟩ (.int .i64 (n1 : Int)) = w8 at *
                  clear y0 y1 yf s0 s1 s2 sf
                  obtain ⟨s0, s1, s2, sf⟩ := HX8.out.three
                  go_region_law (first | (refine st_append _ rfl (.tmp 81) (.tmp 84) 26 rfl 9 _ 1 16 Tryd.underlying26 infoStr rfl (by decide) none _ 0 [] rfl (Row.nil _ _ _) _ m _ (items.map sv) rfl (by rw [List.length_map, HIT.out, Nat.mul_one]) (fun h0 => by rw [if_neg (show ¬ c = 3 by omega)]; exact (HPT.out _ (HF8.out.drew)).cells (by rw [HIT.out]; exact h0)) (sv_one _) (by unfold maxLen; omega) (by omega) ?_; intro A9 c9 w9 rb9 hr9 hF9 hn9; rw [Nat.zero_add, List.nil_append] at hr9; have hF90 : Fr No w8 w9 := ((Fr.refl No w8).drew).then_ (hF9.mono (fun _ _ q => by cases q)); obtain ⟨q0, q1, q2, qf⟩ := (HX8.out.fr hF90 id).three))
                  all_goals
                    have HX10 := Lib.hid (show Bk (w9.setCell ⟨w.heap.size + 1, 2, none⟩ (.slice A9 m c9)) (w.heap.size + 1) 28 [.int .i64 0, .int .i64 (n1 : Int), .slice A9 m c9] from (HX8.out.fr hF90 id).set 2 _)
                    have HZ10 := Lib.hid (show Bk (w9.setCell ⟨w.heap.size + 1, 2, none⟩ (.slice A9 m c9)) w.heap.size 28 [.int .i64 0, .int .i64 0, .slice none 0 0] from (HZ8.out.fr hF90 id).far (by show w.heap.size ≠ w.heap.size + 1; omega) _)
                    have HF10 := Lib.hid (show Fr No w (w9.setCell ⟨w.heap.size + 1, 2, none⟩ (.slice A9 m c9)) from (HF8.out.then_ hF90).set (.inr (by show w.heap.size ≤ w.heap.size + 1; omega)) _)
                    have HR10 := Lib.hid (show Row (w9.setCell ⟨w.heap.size + 1, 2, none⟩ (.slice A9 m c9)) 9 1 rb9 (.slice A9 m c9) m (items.map sv) from hr9.fr ((Fr.refl (fun q => q = w.heap.size + 1) w9).set (p := ⟨w.heap.size + 1, 2, none⟩) (.inl rfl) _) (fun k hk q => by subst q; exact (hr9.bt hk).ne (HX8.out.fr hF90 id).bt (by decide) rfl))
                    have HN10 := Lib.hid (show ∀ k, rb9 = some k → w.heap.size ≤ k from fun k hk => by
                      have h8 := HF8.out.size
                      rcases hn9 with q | ⟨k', q, hq⟩
                      · rw [q] at hk; cases hk
                      · rw [q] at hk; cases hk; exact Nat.le_trans h8 hq)
                    generalize w9.setCell ⟨w.heap.size + 1, 2, none⟩ (.slice A9 m c9) = w10 at *
                    clear s0 s1 s2 sf q0 q1 q2 qf hr9 hF9 hn9 hF90
                    obtain ⟨s0, s1, s2, sf⟩ := HX10.out.three
                    have HCK := Lib.hid (wChkR ⟨0, (n1 : Int), items⟩ A9 m c9 HIT.out (by omega) w10 (Row.tr (D := Any) HR10.out (fun _ _ => trivial)))
                    obtain ⟨rr, hrr⟩ : ∃ rr, chkR ⟨0, (n1 : Int), items⟩ = rr := ⟨_, rfl⟩
                    rw [hrr] at HCK HRF2
                    unfold RV.v at HCK
                    dsimp only at HCK
                    clear hrr
                    go_wp2_with fail
                    all_goals
                      refine HCK.out.mono ?_
                      rintro e w11 ⟨rfl, hF11⟩
                      obtain ⟨s0, s1, s2, sf⟩ := (HX10.out.fr hF11 id).three
                      obtain ⟨z0, z1, z2, zf⟩ := (HZ10.out.fr hF11 id).three
                      have HZ11 := Lib.hid (HZ10.out.fr hF11 id)
                      have HF11 := Lib.hid (HF10.out.then_ hF11)
                      have HR11 := Lib.hid (HR10.out.fr hF11 (fun _ _ q => q))
                      clear hF11 HCK
                      by_cases hz : rr = 0
                      · subst hz
                        have HR := Lib.hid (show readR (u :: a :: b :: r3) = (⟨0, (n1 : Int), items⟩, 3 + m, 0) by rw [HRF2.out, if_neg (fun q => q rfl)])
                        clear HRF2
                        go_wp2
                        refine bodyPost_ret (v := .tuple #[.agg #[.int .i64 0, .int .i64 (n1 : Int), .slice A9 m c9], .int .i64 (t : Int), .int .i64 0]) (by simp [results, Tryd.results16, go_sem, z0, z1, z2, zf]) rfl ⟨A9, c9, rb9, ?_, ?_⟩
                        · rw [HR.out]
                          show _ = Ending.returned (.tuple #[.agg #[.int .i64 0, .int .i64 (n1 : Int), .slice A9 items.length c9], .int .i64 ((3 + m : Nat) : Int), .int .i64 0])
                          rw [HIT.out, HTT.out]
                        · rw [HR.out]
                          show TBuf w _ rb9 (.slice A9 items.length c9) items
                          refine ⟨?_, ?_, HN10.out⟩
                          · rw [HIT.out]
                            refine HR11.out.fr (S := fun q => q = w.heap.size) ?_ (fun k hk q => by subst q; exact (HR11.out.bt hk).ne HZ11.out.bt (by decide) rfl)
                            exact (((Fr.refl (fun q => q = w.heap.size) w11).set (p := ⟨w.heap.size, 0, none⟩) (.inl rfl) _).set (p := ⟨w.heap.size, 1, none⟩) (.inl rfl) _).set (p := ⟨w.heap.size, 2, none⟩) (.inl rfl) _
                          · repeat (refine Fr.set ?_ (.inr (by simp)) _)
                            exact HF11.out
                      · have HR := Lib.hid (show readR (u :: a :: b :: r3) = (rv0, 0, rr) by rw [HRF2.out, if_pos hz])
                        have e6 : (rr != 0) = true := by rw [bne_iff_ne]; exact hz
                        clear HRF2
                        go_wp2
                        refine bodyPost_ret (v := .tuple #[.agg #[.int .i64 0, .int .i64 0, .slice none 0 0], .int .i64 0, .int .i64 rr]) (by simp [results, Tryd.results16, go_sem, z0, z1, z2, zf]) rfl ⟨none, 0, none, by rw [HR.out]; rfl, ?_⟩
                        rw [HR.out]
                        refine TBuf.nil_ ?_
                        repeat (refine Fr.set ?_ (.inr (by simp)) _)
                        exact HF11.out
      | 1, hj5, hi, hju =>
        have HR := Lib.hid (read_code (r := r) hi (by omega))
        have e0 := toList_ne (fun h => code_ne (i := 0) (j := 1) (by omega) (by omega) (by omega) (((code_is HQ.out HP0.out (by omega)).1 h).trans hju.symm))
        have e1 := toList_yes ((code_is HQ.out HP0.out (k := 1) (by omega)).2 hju)
        have e2 := toList_ne (fun h => code_ne (i := 2) (j := 1) (by omega) (by omega) (by omega) (((code_is HQ.out HP0.out (by omega)).1 h).trans hju.symm))
        have e3 := toList_ne (fun h => code_ne (i := 3) (j := 1) (by omega) (by omega) (by omega) (((code_is HQ.out HP0.out (by omega)).1 h).trans hju.symm))
        have e4 := toList_ne (fun h => code_ne (i := 4) (j := 1) (by omega) (by omega) (by omega) (((code_is HQ.out HP0.out (by omega)).1 h).trans hju.symm))
        have cb := keepC (HS.out 1) ca HAX.out
        have cb0 : (w2.setCell ⟨w.heap.size + 1, 0, none⟩ (.int .i64 1)).cell? ad = some (.string p0) := by rw [← cb]; rfl
        have HX3 := Lib.hid (show Bk (w2.setCell ⟨w.heap.size + 1, 0, none⟩ (.int .i64 1)) (w.heap.size + 1) 28 [.int .i64 1, .int .i64 0, .slice none 0 0] from HX2.out.set 0 _)
        have HZ3 := Lib.hid (HZ2.out.fr (HS.out 1) HZX.out)
        have HF3 := Lib.hid (show Fr No w (w2.setCell ⟨w.heap.size + 1, 0, none⟩ (.int .i64 1)) from HF2.out.set (.inr (by show w.heap.size ≤ w.heap.size + 1; omega)) _)
        obtain ⟨s0, s1, s2, sf⟩ := HX3.out.three
        obtain ⟨t0, t1, t2, tf⟩ := HZ3.out.three
        clear hi hju HT HV HC HQ HG HP0 HX hc0
        go_enter Tryd.func16, Tryd.ntmps16
        go_upto_region 4 with (fail)
        rw [HW2.out]
        go_wp2
        refine wp_loop_rounds 6 ?_
        rw [rounds_succ]; go_wp2
        rw [rounds_succ]; go_wp2
        rw [rounds_succ]; go_wp2
        rw [rounds_succ]; go_wp2
        rw [rounds_succ]; go_wp2
        rw [rounds_succ]; go_wp2
        refine bodyPost_ret (v := .tuple #[.agg #[.int .i64 1, .int .i64 0, .slice none 0 0], .int .i64 1, .int .i64 0]) (by simp [results, Tryd.results16, go_sem, t0, t1, t2, tf]) rfl ⟨none, 0, none, by rw [HR.out]; rfl, ?_⟩
        rw [HR.out]
        refine TBuf.nil_ ?_
        repeat (refine Fr.set ?_ (.inr (by simp)) _)
        exact HF2.out
      | 2, hj5, hi, hju =>
        have HR := Lib.hid (read_code (r := r) hi (by omega))
        have e0 := toList_ne (fun h => code_ne (i := 0) (j := 2) (by omega) (by omega) (by omega) (((code_is HQ.out HP0.out (by omega)).1 h).trans hju.symm))
        have e1 := toList_ne (fun h => code_ne (i := 1) (j := 2) (by omega) (by omega) (by omega) (((code_is HQ.out HP0.out (by omega)).1 h).trans hju.symm))
        have e2 := toList_yes ((code_is HQ.out HP0.out (k := 2) (by omega)).2 hju)
        have e3 := toList_ne (fun h => code_ne (i := 3) (j := 2) (by omega) (by omega) (by omega) (((code_is HQ.out HP0.out (by omega)).1 h).trans hju.symm))
        have e4 := toList_ne (fun h => code_ne (i := 4) (j := 2) (by omega) (by omega) (by omega) (((code_is HQ.out HP0.out (by omega)).1 h).trans hju.symm))
        have cb := keepC (HS.out 2) ca HAX.out
        have cb0 : (w2.setCell ⟨w.heap.size + 1, 0, none⟩ (.int .i64 2)).cell? ad = some (.string p0) := by rw [← cb]; rfl
        have HX3 := Lib.hid (show Bk (w2.setCell ⟨w.heap.size + 1, 0, none⟩ (.int .i64 2)) (w.heap.size + 1) 28 [.int .i64 2, .int .i64 0, .slice none 0 0] from HX2.out.set 0 _)
        have HZ3 := Lib.hid (HZ2.out.fr (HS.out 2) HZX.out)
        have HF3 := Lib.hid (show Fr No w (w2.setCell ⟨w.heap.size + 1, 0, none⟩ (.int .i64 2)) from HF2.out.set (.inr (by show w.heap.size ≤ w.heap.size + 1; omega)) _)
        obtain ⟨s0, s1, s2, sf⟩ := HX3.out.three
        obtain ⟨t0, t1, t2, tf⟩ := HZ3.out.three
        clear hi hju HT HV HC HQ HG HP0 HX hc0
        go_enter Tryd.func16, Tryd.ntmps16
        go_upto_region 4 with (fail)
        rw [HW2.out]
        go_wp2
        refine wp_loop_rounds 6 ?_
        rw [rounds_succ]; go_wp2
        rw [rounds_succ]; go_wp2
        rw [rounds_succ]; go_wp2
        rw [rounds_succ]; go_wp2
        rw [rounds_succ]; go_wp2
        rw [rounds_succ]; go_wp2
        refine bodyPost_ret (v := .tuple #[.agg #[.int .i64 2, .int .i64 0, .slice none 0 0], .int .i64 1, .int .i64 0]) (by simp [results, Tryd.results16, go_sem, t0, t1, t2, tf]) rfl ⟨none, 0, none, by rw [HR.out]; rfl, ?_⟩
        rw [HR.out]
        refine TBuf.nil_ ?_
        repeat (refine Fr.set ?_ (.inr (by simp)) _)
        exact HF2.out
      | 3, hj5, hi, hju =>
        have HR := Lib.hid (read_code (r := r) hi (by omega))
        have e0 := toList_ne (fun h => code_ne (i := 0) (j := 3) (by omega) (by omega) (by omega) (((code_is HQ.out HP0.out (by omega)).1 h).trans hju.symm))
        have e1 := toList_ne (fun h => code_ne (i := 1) (j := 3) (by omega) (by omega) (by omega) (((code_is HQ.out HP0.out (by omega)).1 h).trans hju.symm))
        have e2 := toList_ne (fun h => code_ne (i := 2) (j := 3) (by omega) (by omega) (by omega) (((code_is HQ.out HP0.out (by omega)).1 h).trans hju.symm))
        have e3 := toList_yes ((code_is HQ.out HP0.out (k := 3) (by omega)).2 hju)
        have e4 := toList_ne (fun h => code_ne (i := 4) (j := 3) (by omega) (by omega) (by omega) (((code_is HQ.out HP0.out (by omega)).1 h).trans hju.symm))
        have cb := keepC (HS.out 3) ca HAX.out
        have cb0 : (w2.setCell ⟨w.heap.size + 1, 0, none⟩ (.int .i64 3)).cell? ad = some (.string p0) := by rw [← cb]; rfl
        have HX3 := Lib.hid (show Bk (w2.setCell ⟨w.heap.size + 1, 0, none⟩ (.int .i64 3)) (w.heap.size + 1) 28 [.int .i64 3, .int .i64 0, .slice none 0 0] from HX2.out.set 0 _)
        have HZ3 := Lib.hid (HZ2.out.fr (HS.out 3) HZX.out)
        have HF3 := Lib.hid (show Fr No w (w2.setCell ⟨w.heap.size + 1, 0, none⟩ (.int .i64 3)) from HF2.out.set (.inr (by show w.heap.size ≤ w.heap.size + 1; omega)) _)
        obtain ⟨s0, s1, s2, sf⟩ := HX3.out.three
        obtain ⟨t0, t1, t2, tf⟩ := HZ3.out.three
        clear hi hju HT HV HC HQ HG HP0 HX hc0
        go_enter Tryd.func16, Tryd.ntmps16
        go_upto_region 4 with (fail)
        rw [HW2.out]
        go_wp2
        refine wp_loop_rounds 6 ?_
        rw [rounds_succ]; go_wp2
        rw [rounds_succ]; go_wp2
        rw [rounds_succ]; go_wp2
        rw [rounds_succ]; go_wp2
        rw [rounds_succ]; go_wp2
        rw [rounds_succ]; go_wp2
        refine bodyPost_ret (v := .tuple #[.agg #[.int .i64 3, .int .i64 0, .slice none 0 0], .int .i64 1, .int .i64 0]) (by simp [results, Tryd.results16, go_sem, t0, t1, t2, tf]) rfl ⟨none, 0, none, by rw [HR.out]; rfl, ?_⟩
        rw [HR.out]
        refine TBuf.nil_ ?_
        repeat (refine Fr.set ?_ (.inr (by simp)) _)
        exact HF2.out
      | 4, hj5, hi, hju =>
        have HR := Lib.hid (read_code (r := r) hi (by omega))
        have e0 := toList_ne (fun h => code_ne (i := 0) (j := 4) (by omega) (by omega) (by omega) (((code_is HQ.out HP0.out (by omega)).1 h).trans hju.symm))
        have e1 := toList_ne (fun h => code_ne (i := 1) (j := 4) (by omega) (by omega) (by omega) (((code_is HQ.out HP0.out (by omega)).1 h).trans hju.symm))
        have e2 := toList_ne (fun h => code_ne (i := 2) (j := 4) (by omega) (by omega) (by omega) (((code_is HQ.out HP0.out (by omega)).1 h).trans hju.symm))
        have e3 := toList_ne (fun h => code_ne (i := 3) (j := 4) (by omega) (by omega) (by omega) (((code_is HQ.out HP0.out (by omega)).1 h).trans hju.symm))
        have e4 := toList_yes ((code_is HQ.out HP0.out (k := 4) (by omega)).2 hju)
        have cb := keepC (HS.out 4) ca HAX.out
        have cb0 : (w2.setCell ⟨w.heap.size + 1, 0, none⟩ (.int .i64 4)).cell? ad = some (.string p0) := by rw [← cb]; rfl
        have HX3 := Lib.hid (show Bk (w2.setCell ⟨w.heap.size + 1, 0, none⟩ (.int .i64 4)) (w.heap.size + 1) 28 [.int .i64 4, .int .i64 0, .slice none 0 0] from HX2.out.set 0 _)
        have HZ3 := Lib.hid (HZ2.out.fr (HS.out 4) HZX.out)
        have HF3 := Lib.hid (show Fr No w (w2.setCell ⟨w.heap.size + 1, 0, none⟩ (.int .i64 4)) from HF2.out.set (.inr (by show w.heap.size ≤ w.heap.size + 1; omega)) _)
        obtain ⟨s0, s1, s2, sf⟩ := HX3.out.three
        obtain ⟨t0, t1, t2, tf⟩ := HZ3.out.three
        clear hi hju HT HV HC HQ HG HP0 HX hc0
        go_enter Tryd.func16, Tryd.ntmps16
        go_upto_region 4 with (fail)
        rw [HW2.out]
        go_wp2
        refine wp_loop_rounds 6 ?_
        rw [rounds_succ]; go_wp2
        rw [rounds_succ]; go_wp2
        rw [rounds_succ]; go_wp2
        rw [rounds_succ]; go_wp2
        rw [rounds_succ]; go_wp2
        rw [rounds_succ]; go_wp2
        refine bodyPost_ret (v := .tuple #[.agg #[.int .i64 4, .int .i64 0, .slice none 0 0], .int .i64 1, .int .i64 0]) (by simp [results, Tryd.results16, go_sem, t0, t1, t2, tf]) rfl ⟨none, 0, none, by rw [HR.out]; rfl, ?_⟩
        rw [HR.out]
        refine TBuf.nil_ ?_
        repeat (refine Fr.set ?_ (.inr (by simp)) _)
        exact HF2.out
end Go.Proofs.YtdhlbdllidfenaaDoor.Wd
