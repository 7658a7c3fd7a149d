/- The law ChooseBelieves: its walk. Conditions: none. -/
import Derived.Test.YtkgamiojoekegaaChB
import Derived.Test.YtkgamiojoekegaaChO
namespace Go.Proofs.Ytkgamiojoekegaa.Ch
open Go.RowKit Go.Proofs.YtkgamiojoekegaaW.PrintWords Go.Proofs.Ytkgamiojoekegaa.PChooseReady
set_option linter.unusedVariables false

theorem lit_ready : readyS 3 0 0 [⟨1, 4, true⟩, ⟨2, 3, false⟩] = (0, true, 0) := by decide

set_option maxHeartbeats 1000000 in
set_option maxRecDepth 100000 in
theorem believes (n me floor : Int) (A : Option Addr) (c : Nat) (l : List S27) (w : World) (hn : (Lit.int .i64 n).wf = true) (hA : Kd.C k27 w A l.length l) :
    Calls Try.prog 8 #[.int .i64 n, .int .i64 me, .int .i64 floor, .slice A l.length c] w fun e w' => e = .returned (.bool true) ∧ Below w.heap.size w w' := by
  have hC := Lib.hid hA
  clear hA
  go_enter Try.func8, Try.ntmps8
  go_wp2_with fail
  refine (ready_any 3 0 0 _ _ [⟨1, 4, true⟩, ⟨2, 3, false⟩] _ (C_block _ (by decide) (Blk.new w _))).mono ?_
  rintro e w1 ⟨rfl, hB1⟩
  have hB : Below w.heap.size w w1 := ((Below.refl _ _).alloc (Nat.le_refl _) _).trans (hB1.mono (by simp))
  clear hB1
  rw [lit_ready]
  unfold tup
  go_wp2_with fail
  refine (ready_any n me floor A c l _ (Kd.C_below hC.out hB)).mono ?_
  rintro e w2 ⟨rfl, hB1⟩
  have hB2 : Below w.heap.size w w2 := hB.trans (hB1.mono hB.size)
  clear hB1 hB
  obtain ⟨p, hp⟩ : ∃ p, readyS n me floor l = p := ⟨_, rfl⟩
  have HT := Lib.hid (ready_true n me floor l)
  have HF := Lib.hid (ready_not n me floor l)
  rw [hp] at HT HF ⊢
  clear hp
  obtain ⟨a, b, e⟩ := p
  unfold tup
  dsimp only at HT HF ⊢
  cases b with
  | false =>
    have ha : a = 0 := HF.out rfl
    subst ha
    go_wp2
    go_ret
    exact ⟨rfl, hB2⟩
  | true =>
    obtain ⟨he, hs, hq, hu, hf, hm0, hm1, hall, k, hk, ha, hp⟩ := HT.out rfl
    subst he ha
    have hn7 : n = 3 ∨ n = 5 ∨ n = 7 := by simp [sized] at hs; omega
    have hl7 : l.length ≤ 7 := by simp [sized] at hs; omega
    have n3 : 3 ≤ n := by omega
    have n7 : n ≤ 7 := by omega
    have hq' : (n - 1) / 2 < (l.length : Int) := by omega
    obtain ⟨ad, ha, g0, g1, g2⟩ := at_T27 (Kd.C_below hC.out hB2) (k : Int) (by omega) (by omega)
    subst ha
    simp only [Int.toNat_natCast] at g0 g1 g2
    obtain ⟨x, hx⟩ : ∃ x, rd_T27 l (k : Int) = x := ⟨_, rfl⟩
    rw [hx] at g0 g1 g2 hp
    have HX := Lib.hid hx
    obtain ⟨u, hu'⟩ : ∃ u, latest l = u := ⟨_, rfl⟩
    have hmax := latest_max l
    rw [hu'] at hu hf hp hmax
    simp only [prim, Bool.and_eq_true, beq_iff_eq] at hp
    obtain ⟨p0, p1, p2⟩ := hp
    have HU := Lib.hid p1
    have HP0 := Lib.hid p0
    have HM := Lib.hid hmax
    have HN := Lib.hid (allFresh_me n me l [] hall)
    rw [p1] at g1
    rw [p2] at g2
    rw [p0] at g0
    clear hx hu' hmax p0 p1 p2 hall hs hn7 hq HT HF
    go_wp2
    have hb0 := Lib.hid (Blk.new w2 (.cells #[.int .i64 (u % n), .int .i64 u, .bool true] 27 (0, 0)))
    have hB3 : Below w.heap.size w (w2.alloc (.cells #[.int .i64 (u % n), .int .i64 u, .bool true] 27 (0, 0))) := hB2.alloc hB2.size _
    generalize w2.alloc (.cells #[.int .i64 (u % n), .int .i64 u, .bool true] 27 (0, 0)) = w3 at hb0 hB3 ⊢
    have hle := hB2.size
    generalize w2.heap.size = b at hb0 hle ⊢
    clear hB2 g0 g1 g2
    go_loopw [79] (fun i wr => ∃ j : Nat, j ≤ l.length ∧ i = .int .i64 j ∧ Hid (wr.heap[b]? = some (.cells #[.int .i64 (u % n), .int .i64 u, .bool true] 27 (0, 0))) ∧ Below w.heap.size w wr) (fun i _ => l.length - (intOf i).toNat)
    case atStart => exact ⟨0, Nat.zero_le _, rfl, hb0, hB3⟩
    case round =>
      clear hb0 hB3
      obtain ⟨j, hj, rfl, hb, hB⟩ := hrel
      have c0 := Blk.cell hb.out 0
      have c1 := Blk.cell hb.out 1
      have c2 := Blk.cell hb.out 2
      have hbl := Blk.lt hb.out
      by_cases hlt : j < l.length
      · obtain ⟨ad', ha, g0, g1, g2⟩ := at_T27 (Kd.C_below hC.out hB) (j : Int) (by omega) (by omega)
        obtain rfl := Option.some.inj ha
        clear ha
        simp only [Int.toNat_natCast] at g0 g1 g2
        have hm1 := HM.out j hlt
        have hm2 := HN.out j hlt
        obtain ⟨y, hy⟩ : ∃ y, rd_T27 l (j : Int) = y := ⟨_, rfl⟩
        rw [hy] at g0 g1 g2 hm1 hm2
        clear hy
        have d1 : decide (u < y.f1) = false := decide_eq_false (by omega)
        have d2 : (y.f0 == me) = false := beq_eq_false_iff_ne.mpr hm2
        clear hm2
        go_wp2
        go_roundw
        case rel => exact ⟨j + 1, by omega, by go_num, Blk.alloc hb.out _, hB.alloc hB.size _⟩
        case measure => simp [intOf]; omega
      · have d1 : decide (floor ≤ u) = true := decide_eq_true hf
        have d2 : decide (0 ≤ u) = true := decide_eq_true hu
        go_wp2
        go_quiet (fail)
        go_wp2
        go_ret
        exact ⟨by simp, pw_below_drewN hB _⟩
theorem believes_row (w : World) (n : Int) (hn : (Lit.int .i64 n).wf = true) (me : Int) (_hme : (Lit.int .i64 me).wf = true) (floor : Int) (_hfl : (Lit.int .i64 floor).wf = true) (A : Option Addr) (c : Nat) (l : List S27) (hA : Kd.C k27 w A l.length l)
    (_h1 : l.length ≤ c) (_h2 : c * 24 ≤ 140737488351232) (_h3 : ∀ p ∈ l, Opn.Wf27 p) :
    Calls Try.prog 8 #[.int .i64 n, .int .i64 me, .int .i64 floor, .slice A l.length c] w fun e w' => e = .returned (.bool true) ∧ Below w.heap.size w w' := believes n me floor A c l w hn hA
end Go.Proofs.Ytkgamiojoekegaa.Ch
