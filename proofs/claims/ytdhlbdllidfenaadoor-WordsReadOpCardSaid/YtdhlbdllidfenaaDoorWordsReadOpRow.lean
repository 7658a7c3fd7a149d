/-
  Proved: ReadOp's answers are the document's, of any words, asked twice and of the list when other words lie in it; what it takes, Op writes just so: WordsReadOp answers true for every input. Conditions: the tables that the program's text and the library lay hold what is laid there (tied).
    The frame was written by a program of ours.
-/
import Derived.Test.YtdhlbdllidfenaaDoorOpI
import Derived.Test.YtdhlbdllidfenaaDoorOpH
import Derived.Test.YtdhlbdllidfenaaDoorReH
import Derived.Test.YtdhlbdllidfenaaDoorOpF
import Derived.Lib.LaidTab
import Derived.Test.YtdhlbdllidfenaaDoorRows
import Derived.Test.YtdhlbdllidfenaaDoorTie
import Derived.Test.YtdhlbdllidfenaaDoorCards
import Derived.Test.YtdhlbdllidfenaaDoorOpn
import Derived.Test.YtdhlbdllidfenaaDoorWdQ
import Derived.SevenTiedAt
import Derived.LaidMore
import Derived.Stop.Joined
import Derived.Stop.LaidErr
import Derived.LaidSub
import Derived.WalkKit
import Derived.ProofKit
import Derived.OpenShut
import Derived.ShutString
import Derived.ChangeOld
import Derived.Below
import Derived.SizedLaws
namespace Go.Proofs.YtdhlbdllidfenaaDoor.Wd
open Go.RowKit Go.Proofs.YtdhlbdllidfenaaDoor.Mem
open Go.Proofs.YtdhlbdllidfenaaDoor.Nu (numL numE wNumber rNumber Vs num_dec num_is)
set_option linter.unusedVariables false
set_option linter.unusedSimpArgs false
theorem reado_none {u : List UInt8} {r : List (List UInt8)} (h : kindK u = -1) : readO (u :: r) = (ov0, 0, 163) := by
  unfold readO
  dsimp only
  rw [h]; rfl
set_option maxHeartbeats 4000000 in
set_option maxRecDepth 100000 in
theorem wReadO_none (A : Option Addr) (n c : Nat) (u : List UInt8) (r : List (List UInt8)) (hk : kindK u = -1) (hl : (u :: r).length = n) (hn : n ≤ 8796093022000) (w : World) (hT : TR Any w A (u :: r)) (hC : Cf w) :
    Calls Tryd.prog 25 #[.slice A n c] w (Ro w (readO (u :: r))) := by
  have hz : kindZ u = 0 := by unfold kindZ; rw [if_pos (by omega)]
  have HKO := Lib.hid (fun W (hW : Fr No w W) => wKindOf u W (hC.fr hW))
  rw [hz] at HKO
  have HR := Lib.hid (reado_none (r := r) hk)
  have hn0 : 0 < n := by rw [← hl]; simp
  have hn0i : (0 : Int) < (n : Int) := by omega
  have hne : ((n : Int) == 0) = false := by rw [beq_eq_false_iff_ne]; omega
  obtain ⟨ad, hA, hc0⟩ := hT.at_ 0 (by simp)
  subst hA
  obtain ⟨p0, hp0⟩ : ∃ p0 : ByteArray, (⟨u.toArray⟩ : ByteArray) = p0 := ⟨_, rfl⟩
  have hc0 : w.cell? ad = some (.string p0) := by have h := hc0; rw [← hp0]; exact h
  rw [hp0] at HKO
  have HC := Lib.hid hC
  have hcz := keepC ((Fr.refl No w).alloc ZO) hc0 id
  unfold ZO at hcz
  clear hk hz hT hC hl hp0
  go_enter Tryd.func25, Tryd.ntmps25
  go_wp2_with fail
  refine (HKO.out _ ((Fr.refl _ _).alloc _)).mono ?_
  rintro e w1 ⟨rfl, hF1⟩
  have HZ1 := Lib.hid (show Bk w1 w.heap.size 44 [.int .i64 0, .string ⟨#[]⟩, .string ⟨#[]⟩, .int .i64 0, .int .i64 0] from (Bk.new w 44 [.int .i64 0, .string ⟨#[]⟩, .string ⟨#[]⟩, .int .i64 0, .int .i64 0]).fr (S := No) hF1 id)
  have HF1 := Lib.hid (show Fr No w w1 from ((Fr.refl No w).alloc _).then_ hF1)
  obtain ⟨w2, hw2⟩ : ∃ w2, w1.alloc (.cells #[.int .i64 0, .string ⟨#[]⟩, .string ⟨#[]⟩, .int .i64 0, .int .i64 0] 44 (0, 0)) = w2 := ⟨_, rfl⟩
  obtain ⟨bo, hbo⟩ : ∃ bo, w1.heap.size = bo := ⟨_, rfl⟩
  have HM2 := Lib.hid (show MidO w w2 bo 0 ⟨#[]⟩ ⟨#[]⟩ 0 0 by
    rw [← hw2, ← hbo]
    exact ⟨HZ1.out.alloc _, Bk.new w1 44 [.int .i64 0, .string ⟨#[]⟩, .string ⟨#[]⟩, .int .i64 0, .int .i64 0], HF1.out.alloc _, HZ1.out.lt⟩)
  have HW2 := Lib.hid hw2
  have HBO := Lib.hid hbo
  clear hF1 HKO hw2 hbo hcz
  go_upto_region 4 with (fail)
  rw [HW2.out, HBO.out]
  clear HW2 HBO
  have hfw : w2.cell? ⟨1, 1, none⟩ = some (.string ⟨#[]⟩) := (HC.out.fr HM2.out.fr).at_ 1 (by omega)
  obtain ⟨o0, o1, o2, o3, o4, of⟩ := Bk.five HM2.out.o
  obtain ⟨z0, z1, z2, z3, z4, zf⟩ := Bk.five HM2.out.z
  go_wp2
  refine bodyPost_ret (v := .tuple #[.agg #[.int .i64 0, .string ⟨#[]⟩, .string ⟨#[]⟩, .int .i64 0, .int .i64 0], .int .i64 0, .int .i64 163]) (by simp [results, Tryd.results25, go_sem, z0, z1, z2, z3, z4, zf]) rfl ⟨by rw [HR.out]; rfl, ?_⟩
  repeat (refine Fr.set ?_ (.inr (by simp)) _)
  exact HM2.out.fr
set_option maxHeartbeats 4000000 in
set_option maxRecDepth 100000 in
theorem wReadO (A : Option Addr) (n c : Nat) (l : List (List UInt8)) (hl : l.length = n) (hn : n ≤ 8796093022000) (hx : ∀ x ∈ l, x.length ≤ 140737488351232) (w : World) (hT : TR Any w A l) (hV : Vs w) (hC : Cf w) :
    Calls Tryd.prog 25 #[.slice A n c] w (Ro w (readO l)) := by
  match l, hl with
  | [], hl =>
    obtain rfl : n = 0 := hl.symm
    go_enter Tryd.func25, Tryd.ntmps25
    go_wp2
    refine bodyPost_ret (v := .tuple #[.agg #[.int .i64 0, .string ⟨#[]⟩, .string ⟨#[]⟩, .int .i64 0, .int .i64 0], .int .i64 0, .int .i64 162]) (by simp [results, Tryd.results25, go_sem]) rfl ⟨rfl, ?_⟩
    repeat (refine Fr.set ?_ (.inr (by simp)) _)
    exact (Fr.refl _ _).alloc _
  | u :: r, hl =>
    rcases kind_cases u with h | ⟨k, k1, k8, h, _⟩
    · exact wReadO_none A n c u r h hl hn w hT hC
    · match k, k1, k8, h with
      | 1, _, _, h => exact wReadO1 A n c u r h hl hn hx w hT hV hC
      | 2, _, _, h => exact wReadO2 A n c u r h hl hn hx w hT hV hC
      | 3, _, _, h => exact wReadO3 A n c u r h hl hn hx w hT hV hC
      | 4, _, _, h => exact wReadO4 A n c u r h hl hn hx w hT hV hC
      | 5, _, _, h => exact wReadO5 A n c u r h hl hn hx w hT hV hC
      | 6, _, _, h => exact wReadO6 A n c u r h hl hn hx w hT hV hC
      | 7, _, _, h => exact wReadO7 A n c u r h hl hn hx w hT hV hC
      | 8, _, _, h => exact wReadO8 A n c u r h hl hn hx w hT hV hC
set_option maxHeartbeats 4000000 in
set_option maxRecDepth 100000 in
theorem rReadO_none (A : Option Addr) (n c : Nat) (u : List UInt8) (r : List (List UInt8)) (hk : kindK u = -1) (hl : (u :: r).length = n) (hn : n ≤ 8796093022000) (w : World) (hT : TR Any w A (u :: r)) :
    Calls Tryd.prog 27 #[.slice A n c] w (Ro w (readO (u :: r))) := by
  have HR := Lib.hid (reado_none (r := r) hk)
  have hn0 : 0 < n := by rw [← hl]; simp
  have hn0i : (0 : Int) < (n : Int) := by omega
  have hne : ((n : Int) == 0) = false := by rw [beq_eq_false_iff_ne]; omega
  obtain ⟨ad, hA, hc0⟩ := hT.at_ 0 (by simp)
  subst hA
  obtain ⟨p0, hp0⟩ : ∃ p0 : ByteArray, (⟨u.toArray⟩ : ByteArray) = p0 := ⟨_, rfl⟩
  have hc0 : w.cell? ad = some (.string p0) := by have h := hc0; rw [← hp0]; exact h
  have HKI := Lib.hid (fun g W hB => kindAt hp0 g W hB)
  rw [hk] at HKI
  obtain ⟨w1, hw1⟩ : ∃ w1, w.alloc ZO = w1 := ⟨_, rfl⟩
  have HF1 := Lib.hid (show Fr No w w1 by rw [← hw1]; exact (Fr.refl _ _).alloc _)
  have HZ1 := Lib.hid (show Bk w1 w.heap.size 44 [.int .i64 0, .string ⟨#[]⟩, .string ⟨#[]⟩, .int .i64 0, .int .i64 0] by rw [← hw1]; exact Bk.new w 44 [.int .i64 0, .string ⟨#[]⟩, .string ⟨#[]⟩, .int .i64 0, .int .i64 0])
  have ca0 := keepC HF1.out hc0 id
  have HW1 := Lib.hid (show w.alloc (.cells #[.int .i64 0, .string ⟨#[]⟩, .string ⟨#[]⟩, .int .i64 0, .int .i64 0] 44 (0, 0)) = w1 from hw1)
  clear hk hT hl hp0 hw1 hc0
  go_enter Tryd.func27, Tryd.ntmps27
  go_upto_region 3 with (fail)
  rw [HW1.out]
  go_region_law (first | (go_simp; go_at_call 40; refine (rKinds _).mono ?_; rintro e w3 ⟨g3, rfl, hB3, hF3⟩; have hF3 : Fr No w1 w3 := ((Fr.refl No _).drew).then_ hF3; have cb0 := keepC hF3 ca0 id) | (go_simp; go_at_call 37; refine (HKI.out g3 _ hB3).mono ?_; rintro e w4 ⟨rfl, hF4⟩))
  all_goals
    have HF4 := Lib.hid ((HF1.out.then_ hF3).then_ hF4)
    obtain ⟨z0, z1, z2, z3, z4, zf⟩ := Bk.five ((HZ1.out.fr hF3 id).fr hF4 id)
    clear hF3 hF4 hB3 cb0 ca0 HKI HW1 HZ1 HF1
    go_wp2
    refine bodyPost_ret (v := .tuple #[.agg #[.int .i64 0, .string ⟨#[]⟩, .string ⟨#[]⟩, .int .i64 0, .int .i64 0], .int .i64 0, .int .i64 163]) (by simp [results, Tryd.results27, go_sem, z0, z1, z2, z3, z4, zf]) rfl ⟨by rw [HR.out]; rfl, ?_⟩
    repeat (refine Fr.set ?_ (.inr (by simp)) _)
    exact HF4.out
set_option maxHeartbeats 4000000 in
set_option maxRecDepth 100000 in
theorem rReadO (A : Option Addr) (n c : Nat) (l : List (List UInt8)) (hl : l.length = n) (hn : n ≤ 8796093022000) (hx : ∀ x ∈ l, x.length ≤ 140737488351232) (w : World) (hT : TR Any w A l) :
    Calls Tryd.prog 27 #[.slice A n c] w (Ro w (readO l)) := by
  match l, hl with
  | [], hl =>
    obtain rfl : n = 0 := hl.symm
    go_enter Tryd.func27, Tryd.ntmps27
    go_wp2
    refine bodyPost_ret (v := .tuple #[.agg #[.int .i64 0, .string ⟨#[]⟩, .string ⟨#[]⟩, .int .i64 0, .int .i64 0], .int .i64 0, .int .i64 162]) (by simp [results, Tryd.results27, go_sem]) rfl ⟨rfl, ?_⟩
    repeat (refine Fr.set ?_ (.inr (by simp)) _)
    exact (Fr.refl _ _).alloc _
  | u :: r, hl =>
    rcases kind_cases u with h | ⟨k, k1, k8, h, _⟩
    · exact rReadO_none A n c u r h hl hn w hT
    · match k, k1, k8, h with
      | 1, _, _, h => exact rReadO1 A n c u r h hl hn hx w hT
      | 2, _, _, h => exact rReadO2 A n c u r h hl hn hx w hT
      | 3, _, _, h => exact rReadO3 A n c u r h hl hn hx w hT
      | 4, _, _, h => exact rReadO4 A n c u r h hl hn hx w hT
      | 5, _, _, h => exact rReadO5 A n c u r h hl hn hx w hT
      | 6, _, _, h => exact rReadO6 A n c u r h hl hn hx w hT
      | 7, _, _, h => exact rReadO7 A n c u r h hl hn hx w hT
      | 8, _, _, h => exact rReadO8 A n c u r h hl hn hx w hT
end Go.Proofs.YtdhlbdllidfenaaDoor.Wd
namespace Go.Proofs.YtdhlbdllidfenaaDoor.Wd
open Go.RowKit Go.Proofs.YtdhlbdllidfenaaDoor.Mem
open Go.Proofs.YtdhlbdllidfenaaDoor.Nu (numL numE wNumber rNumber Vs num_dec num_is)
set_option linter.unusedVariables false
set_option linter.unusedSimpArgs false
set_option maxHeartbeats 4000000 in
set_option maxRecDepth 100000 in
theorem wReads (g d : Nat) (A : Option Addr) (n c : Nat) (l : List (List UInt8)) (hl : l.length = n) (hn : n ≤ 8796093022000) (hx : ∀ x ∈ l, x.length ≤ 140737488351232) (w : World) (hL : Lent w g d l) (hT : TR Any w A l) (hV : Vs w) (hC : Cf w) :
    Calls Tryd.prog 26 #[.slice (some ⟨g, 0, none⟩) n d, .slice A n c] w fun e w' => e = .returned (.bool true) ∧ Fr No w w' := by
  have HW := Lib.hid (wReadO (some ⟨g, 0, none⟩) n d l hl hn hx w (hL.tr (D := Any) trivial) hV hC)
  have HR := Lib.hid (fun W (hW : Fr No w W) => rReadO A n c l hl hn hx W (hT.fr hW (fun _ _ _ q => q)))
  have HST := Lib.hid (fun W (hW : Fr No w W) => wStill g d l n hl A c l hl hn W (hL.fr hW id) (hT.fr hW (fun _ _ _ q => q)))
  rw [show decide (l = l) = true from decide_eq_true rfl] at HST
  obtain ⟨R, hR⟩ : ∃ R, readO l = R := ⟨_, rfl⟩
  rw [hR] at HW HR
  obtain ⟨⟨kind, name, text, num, most⟩, k, er⟩ := R
  unfold Ro OV.v sv at HW HR
  dsimp only at HW HR
  obtain ⟨nb, hnb⟩ : ∃ p : ByteArray, (⟨name.toArray⟩ : ByteArray) = p := ⟨_, rfl⟩
  obtain ⟨tb, htb⟩ : ∃ p : ByteArray, (⟨text.toArray⟩ : ByteArray) = p := ⟨_, rfl⟩
  rw [hnb, htb] at HW HR
  clear hR hl hx hL hT hV hC hnb htb
  go_enter Tryd.func26, Tryd.ntmps26
  go_wp2_with fail
  refine HW.out.mono ?_
  rintro e w1 ⟨rfl, hF1⟩
  have HF1 := Lib.hid (hF1.alloc (.cells #[.int .i64 kind, .string nb, .string tb, .int .i64 num, .int .i64 most] 44 (0, 0)))
  obtain ⟨wx, hwx⟩ : ∃ wx, w1.alloc (.cells #[.int .i64 kind, .string nb, .string tb, .int .i64 num, .int .i64 most] 44 (0, 0)) = wx := ⟨_, rfl⟩
  obtain ⟨bx, hbx⟩ : ∃ bx, w1.heap.size = bx := ⟨_, rfl⟩
  have HXX := Lib.hid (show Bk wx bx 44 [.int .i64 kind, .string nb, .string tb, .int .i64 num, .int .i64 most] by rw [← hwx, ← hbx]; exact Bk.new w1 44 [.int .i64 kind, .string nb, .string tb, .int .i64 num, .int .i64 most])
  rw [hwx] at HF1
  clear hF1 HW
  go_wp2_with fail
  try rw [hwx]
  try rw [hbx]
  clear hwx hbx
  refine (HR.out wx HF1.out).mono ?_
  rintro e w2 ⟨rfl, hF2⟩
  obtain ⟨wy, hwy⟩ : ∃ wy, w2.alloc (.cells #[.int .i64 kind, .string nb, .string tb, .int .i64 num, .int .i64 most] 44 (0, 0)) = wy := ⟨_, rfl⟩
  obtain ⟨bb, hbb⟩ : ∃ bb, w2.heap.size = bb := ⟨_, rfl⟩
  have hYY : Bk wy bb 44 [.int .i64 kind, .string nb, .string tb, .int .i64 num, .int .i64 most] := by rw [← hwy, ← hbb]; exact Bk.new w2 44 [.int .i64 kind, .string nb, .string tb, .int .i64 num, .int .i64 most]
  have hF2y : Fr No w2 wy := by rw [← hwy]; exact (Fr.refl _ _).alloc _
  have hXY := (HXX.out.fr hF2 id).fr hF2y id
  have HFY := Lib.hid ((HF1.out.then_ hF2).then_ hF2y)
  obtain ⟨x0, x1, x2, x3, x4, xf⟩ := Bk.five hXY
  obtain ⟨y0, y1, y2, y3, y4, yf⟩ := Bk.five hYY
  clear hF2 hF2y hXY hYY HXX HR
  go_wp2_with fail
  try rw [hwy]
  refine (HST.out wy HFY.out).mono ?_
  rintro e w3 ⟨rfl, hF3⟩
  have HF3 := Lib.hid (HFY.out.then_ hF3)
  clear hF3
  go_wp2
  go_ret
  exact ⟨by simp, HF3.out⟩
end Go.Proofs.YtdhlbdllidfenaaDoor.Wd
namespace Go.Proofs.YtdhlbdllidfenaaDoor.Wd
open Go.RowKit Go.Proofs.YtdhlbdllidfenaaDoor.Mem
open Go.Proofs.YtdhlbdllidfenaaDoor.Nu (numL numE wNumber rNumber Vs num_dec num_is)
set_option linter.unusedVariables false
set_option linter.unusedSimpArgs false
def firstO : List (List UInt8) := [[100, 114, 111, 112], [113], [120]]
theorem firstO_is : readO firstO = (⟨2, [113], [], 0, 0⟩, 2, 0) := by
  first
    | rfl
    | (have hK : kindK [100, 114, 111, 112] = 2 := by decide
       simp [readO, firstO, hK, manyK, layO, chkO, hasN, hasT, hasK])
set_option maxHeartbeats 8000000 in
set_option maxRecDepth 100000 in
theorem readop_row (w : World) (hV : Vs w) (hC : Cf w) (A : Option Addr) (c : Nat) (l : List (List UInt8)) (hCl : TR Any w A l ∧ ∀ x ∈ l, x.length ≤ 140737488351232) (hlc : l.length ≤ c) (hby : c * 16 ≤ 140737488351232)
    (A2 : Option Addr) (c2 : Nat) (l2 : List (List UInt8)) (hCl2 : TR Any w A2 l2 ∧ ∀ x ∈ l2, x.length ≤ 140737488351232) (hlc2 : l2.length ≤ c2) (hby2 : c2 * 16 ≤ 140737488351232) :
    Calls Tryd.prog 7 #[.slice A l.length c, .slice A2 l2.length c2] w fun e w' => e = .returned (.bool true) ∧ Below w.heap.size w w' := by
  have HVB := Lib.hid (fun W (hW : Fr No w W) => show Vs W from Nu.Vs.fr hV hW)
  have HCB := Lib.hid (fun W (hW : Fr No w W) => hC.fr hW)
  have HTB := Lib.hid (fun W (hW : Fr No w W) => show TR Any W A l from hCl.1.fr hW (fun _ _ _ q => q))
  have HTB2 := Lib.hid (fun W (hW : Fr No w W) => show TR Any W A2 l2 from hCl2.1.fr hW (fun _ _ _ q => q))
  have HX := Lib.hid hCl.2
  have HX2 := Lib.hid hCl2.2
  obtain ⟨n, hn⟩ : ∃ n, l.length = n := ⟨_, rfl⟩
  obtain ⟨n2, hn2⟩ : ∃ n2, l2.length = n2 := ⟨_, rfl⟩
  rw [hn] at hlc ⊢
  rw [hn2] at hlc2 ⊢
  have HN := Lib.hid hn
  have HN2 := Lib.hid hn2
  have hnb : n ≤ 8796093022000 := by omega
  obtain ⟨w1, hw1⟩ : ∃ w1, w.alloc (.cells #[.string ⟨#[100, 114, 111, 112]⟩, .string ⟨#[113]⟩, .string ⟨#[120]⟩] 9 (0, 0)) = w1 := ⟨_, rfl⟩
  have hF1 : Fr No w w1 := by rw [← hw1]; exact (Fr.refl _ _).alloc _
  have hB1 : Bk w1 w.heap.size 9 (firstO.map sv) := by rw [← hw1]; exact Bk.new w 9 (firstO.map sv)
  have HRD := Lib.hid (wReadO (some ⟨w.heap.size, 0, none⟩) 3 3 firstO rfl (by omega) (by decide) w1 (Bk.texts hB1 Any trivial) (Nu.Vs.fr hV hF1) (hC.fr hF1))
  rw [firstO_is] at HRD
  unfold Ro OV.v sv at HRD
  dsimp only at HRD
  have HF1 := Lib.hid hF1
  have HW1 := Lib.hid hw1
  clear hn hn2 hV hC hCl hCl2 hF1 hB1 hw1
  go_enter Tryd.func7, Tryd.ntmps7
  go_wp2_with fail
  rw [HW1.out]
  refine HRD.out.mono ?_
  rintro e w2 ⟨rfl, hF2⟩
  have HF3 := Lib.hid (show Fr No w (w2.alloc (.cells #[.int .i64 2, .string ⟨#[113]⟩, .string ⟨#[]⟩, .int .i64 0, .int .i64 0] 44 (0, 0))) from (HF1.out.then_ hF2).alloc _)
  have HLN := Lib.hid (fun W (hW : Fr No w W) => wLent A n c l HN.out hnb W (HTB.out W hW))
  clear hF2 HRD HW1 HF1
  go_wp2_with fail
  refine (HLN.out _ HF3.out).mono ?_
  rintro e w5 ⟨g, d, rfl, hL5, hF5, hg5⟩
  have HF5 := Lib.hid (HF3.out.then_ hF5)
  have HL5 := Lib.hid hL5
  have HRE := Lib.hid (fun W (hW : Fr No w5 W) => wReads g d A n c l HN.out hnb HX.out W (HL5.out.fr hW id) (HTB.out W (HF5.out.then_ hW)) (HVB.out W (HF5.out.then_ hW)) (HCB.out W (HF5.out.then_ hW)))
  have HGW := Lib.hid (show w.heap.size ≤ g from Nat.le_trans HF3.out.size hg5)
  have hnd : n ≤ d := by obtain ⟨sp, _, q, _⟩ := hL5; have := HN.out; omega
  clear hL5 hF5 hg5 HLN HF3
  go_wp2_with fail
  refine (HRE.out w5 (Fr.refl _ _)).mono ?_
  rintro e w6 ⟨rfl, hF6⟩
  have HF6 := Lib.hid hF6
  clear hF6
  go_wp2_with fail
  refine (HRE.out w6 HF6.out).mono ?_
  rintro e w7 ⟨rfl, hF7⟩
  have HF7 := Lib.hid (HF6.out.then_ hF7)
  have HRF := Lib.hid (rReadO A n c l HN.out hnb HX.out w7 (HTB.out w7 (HF5.out.then_ HF7.out)))
  have hki := reado_len l
  rw [HN.out] at hki
  clear hF7 HRE HF6
  obtain ⟨R, hR⟩ : ∃ R, readO l = R := ⟨_, rfl⟩
  have HRW := Lib.hid (fun x k (h : readO l = (x, k, 0)) => op_written h)
  rw [hR] at HRF hki HRW
  have HLNE := Lib.hid (show R.2.2 = 0 → l ≠ [] from fun e0 el => by rw [el] at hR; rw [← hR] at e0; exact absurd e0 (by decide))
  obtain ⟨⟨kind, name, text, num, most⟩, k, er⟩ := R
  have HOP := Lib.hid (fun W (hW : Fr No w W) => wOp ⟨kind, name, text, num, most⟩ W (HVB.out W hW) (HCB.out W hW))
  unfold Ro at HRF
  unfold OV.v sv at HRF HOP
  dsimp only at *
  obtain ⟨nb, hnb2⟩ : ∃ p : ByteArray, (⟨name.toArray⟩ : ByteArray) = p := ⟨_, rfl⟩
  obtain ⟨tb, htb2⟩ : ∃ p : ByteArray, (⟨text.toArray⟩ : ByteArray) = p := ⟨_, rfl⟩
  rw [hnb2, htb2] at HRF HOP
  clear hR hnb2 htb2
  go_wp2_with fail
  refine HRF.out.mono ?_
  rintro e w8 ⟨rfl, hF8⟩
  obtain ⟨wx, hwx⟩ : ∃ wx, w8.alloc (.cells #[.int .i64 kind, .string nb, .string tb, .int .i64 num, .int .i64 most] 44 (0, 0)) = wx := ⟨_, rfl⟩
  have hF8x : Fr No w8 wx := by rw [← hwx]; exact (Fr.refl _ _).alloc _
  have hbx : Bk wx w8.heap.size 44 [.int .i64 kind, .string nb, .string tb, .int .i64 num, .int .i64 most] := by rw [← hwx]; exact Bk.new w8 44 [.int .i64 kind, .string nb, .string tb, .int .i64 num, .int .i64 most]
  have HFx := Lib.hid ((HF7.out.then_ hF8).then_ hF8x)
  clear hF8 hF8x HRF
  by_cases her : er = 0
  case' pos =>
    subst her
    have HRS := Lib.hid (HRW.out _ _ rfl)
    have HWR := Lib.hid (HOP.out wx (HF5.out.then_ HFx.out))
    rw [HRS.out] at HWR
    unfold Res at HWR
    dsimp only at HWR
    have hlen : (l.take k).length = k := by rw [List.length_take, HN.out]; omega
    have HKL := Lib.hid hlen
    rw [hlen] at HWR
    obtain ⟨ad, hA⟩ : ∃ ad, A = some ad := by
      have h0 : 0 < l.length := List.length_pos_iff.2 (HLNE.out rfl)
      obtain ⟨ad, hA, _⟩ := (HTB.out wx (HF5.out.then_ HFx.out)).at_ 0 h0
      exact ⟨ad, hA⟩
    subst hA
    have hkc : k ≤ c := by omega
    have hkci : (k : Int) ≤ (c : Int) := by omega
    have hk0i : (0 : Int) ≤ (k : Int) := by omega
    clear hlen
    obtain ⟨x0, x1, x2, x3, x4, xf⟩ := Bk.five hbx
    clear hbx
    go_wp2_with fail
    try rw [hwx]
    refine HWR.out.mono ?_
    rintro e w10 ⟨A10, c10, rb10, rfl, hT10⟩
    have hrow := hT10.1
    rw [HKL.out] at hrow
    have HF10 := Lib.hid (HFx.out.then_ hT10.2.1)
    have HTX2 := Lib.hid (wTexts A10 (some ad) k c10 k c (l.take k) (l.take k) HKL.out HKL.out (by omega) w10 (Row.tr (D := Any) hrow (fun _ _ => trivial)) (fun j u hj => (HTB.out w10 (HF5.out.then_ HF10.out)) j u (by
      rw [List.getElem?_take] at hj
      split at hj
      · exact hj
      · cases hj)))
    rw [show decide (l.take k = l.take k) = true from decide_eq_true rfl] at HTX2
    clear hT10 hrow x0 x1 x2 x3 x4 xf
    go_wp2_with fail
    refine HTX2.out.mono ?_
    rintro e w11 ⟨rfl, hF11⟩
    have HF11 := Lib.hid (show Fr No w5 w11 from HF10.out.then_ hF11)
    clear hF11 HTX2 HWR
  case' neg =>
    have her' : (er == 0) = false := by rw [beq_eq_false_iff_ne]; exact her
    obtain ⟨w11, hw11⟩ : ∃ w11, wx = w11 := ⟨_, rfl⟩
    have HF11 := Lib.hid (show Fr No w5 w11 by rw [← hw11]; exact HFx.out)
    rw [hw11] at hwx
    clear hbx
  all_goals
    have HL11 := Lib.hid (HL5.out.fr HF11.out id)
    have HW11 := Lib.hid (HF5.out.then_ HF11.out)
    have HGL := Lib.hid (show g < w11.heap.size by obtain ⟨sp, q, _⟩ := HL11.out; exact q.lt)
    go_upto_region 13 with (at_builtin; refine wl_append _ rfl (.const (.slice none 0 0)) (.tmp 67) 26 rfl 9 _ 1 16 Tryd.underlying26 infoStr rfl (by decide) none _ 0 [] rfl (Row.nil _ _ _) _ n c (l.map sv) rfl (by rw [List.length_map, HN.out, Nat.mul_one]) (fun h => (HTB.out _ HW11.out).cells (by rw [HN.out]; exact h)) (sv_one _) (by unfold maxLen; omega) (by omega) ?_; intro An cn w14 rbn hrn hFn hnbn; rw [Nat.zero_add, List.nil_append] at hrn)
    have hF14 : Fr No w11 w14 := hFn.mono (fun _ _ q => by cases q)
    have HNB := Lib.hid (show ∀ k, rbn = some k → w11.heap.size ≤ k from fun k hk => by
      rcases hnbn with q | ⟨k', q, hq⟩
      · rw [q] at hk; cases hk
      · rw [q] at hk; cases hk; exact hq)
    have HGNB := Lib.hid (show ¬ rbn = some g from fun e => by have := HNB.out g e; have := HGL.out; omega)
    have HF14 := Lib.hid (HW11.out.then_ hF14)
    have HL14 := Lib.hid (HL11.out.fr hF14 id)
    have HR14 := Lib.hid hrn
    have hw11s := HW11.out.size
    clear hrn hFn hnbn hF14 HL11
    go_upto_region 14 with (refine wl_copy_row rfl (.tmp 69) (.tmp 70) rfl rbn An n cn l HN.out rfl HR14.out _ n2 c2 l2 HN2.out rfl (HTB2.out w14 HF14.out) ?_; intro w15 hr15 hF15 q15)
    have HF15 := Lib.hid (show Fr No w w15 from HF14.out.trans hF15 (fun k hk q => by have := HNB.out k q; omega))
    have HL15 := Lib.hid (HL14.out.fr hF15 HGNB.out)
    have HNX := Lib.hid (show ∀ x ∈ laidOver l l2, x.length ≤ 140737488351232 from fun x hx => by
      rcases over_mem hx with q | q
      · exact HX.out x q
      · exact HX2.out x q)
    have HNLL := Lib.hid (show (laidOver l l2).length = n by rw [over_len]; exact HN.out)
    generalize laidOver l l2 = nl at *
    have HR15 := Lib.hid hr15
    obtain ⟨sp, hBG, hl1, hl2, hl3⟩ := HL15.out
    rw [HN.out] at hl1 hl3
    have HBG := Lib.hid hBG
    have HSP := Lib.hid hl3
    clear hr15 hF15 hBG hl3 HR14 HL14
    go_upto_region 15 with (refine wl_copy w15 rfl (.tmp 72) (.tmp 73) 26 26 rfl 9 Tryd.underlying26 infoS1 g 0 n d An n cn rfl rfl 9 _ HBG.out (nl.map sv) (by rw [List.length_map, HNLL.out]; exact (Nat.min_self n).symm) (fun h => (Row.tr (D := Any) HR15.out (fun _ _ => trivial)).cells (by rw [List.length_map] at h; exact h)) (by rw [List.length_map, HNLL.out, List.length_append, List.length_map, List.length_append, HN.out]; omega) (sv_one _) ?_; intro w16 hB16 hF16)
    have HL16 := Lib.hid (Lent.swap (m := nl) (l := l) (sp := sp) (c := d) (by rw [HN.out]; exact HNLL.out) rfl hB16 (by rw [HN.out]; exact hl1) hl2 (by rw [HN.out]; exact HSP.out))
    have HF16 := Lib.hid (show Fr No w w16 from HF15.out.trans hF16 (fun k hk q => by subst q; have := HGW.out; omega))
    have HR16 := Lib.hid (HR15.out.fr hF16 (fun k hk e => HGNB.out (by rw [← e]; exact hk)))
    have HRE := Lib.hid (wReads g d An n cn nl HNLL.out hnb HNX.out w16 HL16.out (Row.tr (D := Any) HR16.out (fun _ _ => trivial)) (HVB.out w16 HF16.out) (HCB.out w16 HF16.out))
    clear hB16 hF16 HL15 HR15 HBG
    go_wp2_with fail
    refine HRE.out.mono ?_
    rintro e w17 ⟨rfl, hF17⟩
    have HF17 := Lib.hid (HF16.out.then_ hF17)
    clear hF17
    go_wp2
    go_ret
    exact ⟨by simp, HF17.out.to⟩
end Go.Proofs.YtdhlbdllidfenaaDoor.Wd
namespace Go.Proofs.YtdhlbdllidfenaaDoor.Wd
open Go.RowKit Go.Proofs.YtdhlbdllidfenaaDoor.Mem Go.Lib
set_option linter.unusedVariables false
set_option linter.unusedSimpArgs false
def pairsL : List (List UInt8 × List UInt8) := [([], []), ([109, 97, 107, 101], [110]), ([100, 114, 111, 112], [110]), ([112, 117, 115, 104], [110, 116]), ([116, 114, 105, 109], [110, 107]), ([116, 97, 107, 101], [110, 116]), ([114, 101, 97, 100], [110, 107, 109]), ([99, 111, 117, 110, 116], [110]), ([108, 105, 115, 116], [])]
theorem pairs_forms : ∀ i, i < 9 → ∀ a b, pairsL[i]? = some (a, b) → formsL[2 * i]? = some a ∧ formsL[2 * i + 1]? = some b
  | 0, _, a, b, h => by cases h; exact ⟨rfl, rfl⟩
  | 1, _, a, b, h => by cases h; exact ⟨rfl, rfl⟩
  | 2, _, a, b, h => by cases h; exact ⟨rfl, rfl⟩
  | 3, _, a, b, h => by cases h; exact ⟨rfl, rfl⟩
  | 4, _, a, b, h => by cases h; exact ⟨rfl, rfl⟩
  | 5, _, a, b, h => by cases h; exact ⟨rfl, rfl⟩
  | 6, _, a, b, h => by cases h; exact ⟨rfl, rfl⟩
  | 7, _, a, b, h => by cases h; exact ⟨rfl, rfl⟩
  | 8, _, a, b, h => by cases h; exact ⟨rfl, rfl⟩
set_option maxRecDepth 100000 in
theorem pair_of {H : Type} {enc : TypeId × Value → H} {w : World} {base : Nat} {sp : Nat → Bool} {held : Bool} {fuel : Nat} {cs : List Value} {a b : List UInt8} {p : List MemPlace} (h : DataW.trod enc Tryd.prog w base sp held fuel 65 cs = some (.agg [.lit (.string a), .lit (.string b)], p)) : cs = [sv a, sv b] := by
  obtain ⟨xs, m, _, hx, hlen, hxl, hF⟩ := DataW.trod_struct Tryd.underlying65 h
  rw [show Tryd.prog.cellsOf 65 = 2 by kernel_rfl] at hlen
  have e3 : Tryd.prog.cellsOf 9 = 1 := by kernel_rfl
  match cs, hlen with
  | [c0, c1], _ =>
    have h0 := hF 0 _ rfl
    have h1 := hF 1 _ rfl
    match xs, hxl with
    | [y0, y1], _ =>
      simp [e3] at h0 h1
      obtain ⟨s0, q0, r0, _⟩ := DataW.trod_string Tryd.underlying9 h0
      obtain ⟨s1, q1, r1, _⟩ := DataW.trod_string Tryd.underlying9 h1
      have hx1 := congrArg Prod.fst hx
      simp at hx1 q0 q1
      subst r0 r1
      simp at hx1
      obtain ⟨rfl, rfl⟩ := hx1
      rw [q0, q1]
      simp [sv]
set_option maxRecDepth 100000 in
theorem cells_of_pairs {H : Type} {enc : TypeId × Value → H} {w : World} {base : Nat} {sp : Nat → Bool} {held : Bool} {fuel : Nat} {cs : List Value} {p : List MemPlace}
    (h : DataW.trod enc Tryd.prog w base sp held fuel 66 cs = some (.agg (pairsL.map fun z => .agg [.lit (.string z.1), .lit (.string z.2)]), p)) : cs = formsL.map sv := by
  have hce : Tryd.prog.cellsOf 65 = 2 := by kernel_rfl
  have hct : Tryd.prog.cellsOf 66 = 18 := by kernel_rfl
  cases fuel with
  | zero => simp [DataW.trod] at h
  | succ fuel =>
    simp only [DataW.trod, Tryd.underlying66, hce, hct] at h
    split at h
    · rename_i hl
      obtain ⟨xs, hm, hx⟩ := Option.map_eq_some_iff.1 h
      have hxs : xs.map (·.1) = pairsL.map fun z => (DataW.agg [.lit (.string z.1), .lit (.string z.2)] : DataW H) := by
        have := congrArg Prod.fst hx
        simpa using this
      have key : ∀ i, i < 9 → ∃ a b, pairsL[i]? = some (a, b) ∧ cs[2 * i]? = some (sv a) ∧ cs[2 * i + 1]? = some (sv b) := fun i hi => by
        obtain ⟨y, hb, hf⟩ := mapM_at hm i i (by simp [hi])
        have h2 : (xs.map (·.1))[i]? = some y.1 := by simp [hb]
        rw [hxs, List.getElem?_map] at h2
        obtain ⟨⟨a, b⟩, hab, hy⟩ := Option.map_eq_some_iff.1 h2
        obtain ⟨y1, y2⟩ := y
        dsimp only at hy
        subst hy
        have hc := pair_of hf
        refine ⟨a, b, hab, ?_, ?_⟩
        · have := congrArg (·[0]?) hc
          simpa [List.getElem?_take, List.getElem?_drop, Nat.mul_comm] using this
        · have := congrArg (·[1]?) hc
          simpa [List.getElem?_take, List.getElem?_drop, Nat.mul_comm] using this
      apply List.ext_getElem?
      intro j
      by_cases hj : j < 18
      · obtain ⟨a, b, h1, h2, h3⟩ := key (j / 2) (by omega)
        obtain ⟨g1, g2⟩ := pairs_forms (j / 2) (by omega) a b h1
        rcases Nat.mod_two_eq_zero_or_one j with q | q
        · have e : 2 * (j / 2) = j := by omega
          rw [e] at h2 g1
          rw [h2, List.getElem?_map, g1]; rfl
        · have e : 2 * (j / 2) + 1 = j := by omega
          rw [e] at h3 g2
          rw [h3, List.getElem?_map, g2]; rfl
      · have hfl : formsL.length = 18 := rfl
        rw [List.getElem?_eq_none (by omega), List.getElem?_eq_none (by simp; omega)]
    · cases h
set_option maxRecDepth 100000 in
theorem cf_of {W : World} (h : laidMet Tryd.prog [("flotilla/words.forms", .agg (pairsL.map fun z => .agg [.lit (.string z.1), .lit (.string z.2)]))] W) : Cf W := by
  obtain ⟨ps, ⟨g', t', cs, fuel, p, q, hg', ht', hvar, hd, _, _⟩, _⟩ := h
  have hg : Tryd.prog.globalNamed "flotilla/words.forms" = some 1 := by kernel_rfl
  have hty : (Tryd.prog.globals[1]?).map (·.type) = some 66 := by kernel_rfl
  obtain rfl := Option.some.inj (hg.symm.trans hg')
  obtain rfl := Option.some.inj (hty.symm.trans ht')
  have hc := cells_of_pairs hd
  unfold World.var? at hvar
  rw [hg] at hvar
  simp only [Option.bind_some] at hvar
  split at hvar
  · rename_i cs' t fr hh
    simp only [Option.some.injEq] at hvar
    exact ⟨t, fr, by rw [hh, hvar, ← hc]⟩
  · cases hvar
end Go.Proofs.YtdhlbdllidfenaaDoor.Wd
namespace Go.Proofs.YtdhlbdllidfenaaDoor.wordsReadOp
open Go.ChangeShapes Go.WideShapes Go.ChangeAt Go.RowKit
open Go.ChangeMaps (open_string shut_string)
set_option linter.unusedVariables false
def laid : List (String × DataW Unit) := [("math/bits.deBruijn32tab", Rows.laid_math_bits_deBruijn32tab), ("math/bits.deBruijn64tab", Rows.laid_math_bits_deBruijn64tab), ("internal/strconv.uint64pow10", Rows.laid_internal_strconv_uint64pow10), ("strconv.ErrRange", Rows.laid_strconv_ErrRange), ("strconv.ErrSyntax", Rows.laid_strconv_ErrSyntax), ("flotilla/words.forms", Rows.laid_flotilla_words_forms)]
theorem gTab : Tryd.prog.globalNamed "internal/strconv.uint64pow10" = some 4 := by kernel_rfl
theorem tTab : (Tryd.prog.globals[4]?).map (·.type) = some 101 := by kernel_rfl
theorem gS : Tryd.prog.globalNamed "strconv.ErrSyntax" = some 2 := by kernel_rfl
theorem tS : (Tryd.prog.globals[2]?).map (·.type) = some 51 := by kernel_rfl
theorem gR : Tryd.prog.globalNamed "strconv.ErrRange" = some 3 := by kernel_rfl
theorem tR : (Tryd.prog.globals[3]?).map (·.type) = some 51 := by kernel_rfl
theorem cE : Tryd.prog.cellsOf 99 = 1 := by kernel_rfl
theorem cS : Tryd.prog.cellsOf 9 = 1 := by kernel_rfl
theorem star : "*" ++ "errors.errorString" = "*errors.errorString" := by decide
theorem rowE (u : TypeId) (h : Tryd.prog.typeName? 3 u = some "*errors.errorString") : u = 97 :=
  typeName_ptr_named (nm := "errors.errorString") (by rw [star]; kernel_rfl) (by kernel_rfl) (by decide) u (by rw [star]; exact h)
theorem door_met (os : Os) (args : Array Value) : laidMetH Tryd.prog laid ((World.doorLaid Tryd.prog 400 os).forCall (fun _ _ => 0) ⟨#[], args, []⟩).memory :=
  laidMetH_of_parts3 (fuel := 8) (laidMet_of_run' 8 (by kernel_rfl) (by kernel_rfl)) (by kernel_rfl) (by kernel_rfl)
theorem of_laid {W : World} (h : laidMetH Tryd.prog laid W) : Nu.Vs W := by
  rw [MakeChecks.laidMetH_plain _ _ _ (by kernel_rfl)] at h
  have h1 : laidMet Tryd.prog [("internal/strconv.uint64pow10", Lib.tabData .u64 Lib.pow10Tab)] W := by
    have z := h.filter (fun x => x.1 == "internal/strconv.uint64pow10")
    rw [show (laid.filter fun x => x.1 == "internal/strconv.uint64pow10") = [("internal/strconv.uint64pow10", Lib.tabData .u64 Lib.pow10Tab)] by kernel_rfl] at z
    exact z
  have h2 : laidMet Tryd.prog [("strconv.ErrSyntax", Rows.laid_strconv_ErrSyntax)] W := by
    have z := h.filter (fun x => x.1 == "strconv.ErrSyntax")
    rw [show (laid.filter fun x => x.1 == "strconv.ErrSyntax") = [("strconv.ErrSyntax", Rows.laid_strconv_ErrSyntax)] by kernel_rfl] at z
    exact z
  have h3 : laidMet Tryd.prog [("strconv.ErrRange", Rows.laid_strconv_ErrRange)] W := by
    have z := h.filter (fun x => x.1 == "strconv.ErrRange")
    rw [show (laid.filter fun x => x.1 == "strconv.ErrRange") = [("strconv.ErrRange", Rows.laid_strconv_ErrRange)] by kernel_rfl] at z
    exact z
  refine ⟨Lib.tabIs_of_head (rest := []) gTab tTab Tryd.underlying101 Tryd.underlying82 (by kernel_rfl) (by kernel_rfl) h1, ?_, ?_⟩
  · obtain ⟨a0, s0, hv0, -, -, -⟩ := laid_sentinel h2 gS tS Tryd.underlying51 rowE Tryd.underlying97 Tryd.underlying99 rfl rfl Tryd.underlying9 cE cS
    exact ⟨_, _, hv0⟩
  · obtain ⟨a0, s0, hv0, -, -, -⟩ := laid_sentinel h3 gR tR Tryd.underlying51 rowE Tryd.underlying97 Tryd.underlying99 rfl rfl Tryd.underlying9 cE cS
    exact ⟨_, _, hv0⟩
theorem of_laid2 {W : World} (h : laidMetH Tryd.prog laid W) : Wd.Cf W := by
  rw [MakeChecks.laidMetH_plain _ _ _ (by kernel_rfl)] at h
  have z := h.filter (fun x => x.1 == "flotilla/words.forms")
  rw [show (laid.filter fun x => x.1 == "flotilla/words.forms") = [("flotilla/words.forms", .agg (Wd.pairsL.map fun z => .agg [.lit (.string z.1), .lit (.string z.2)]))] by kernel_rfl] at z
  exact Wd.cf_of z
theorem own : ownKnob Tryd.prog.godebug = none := by kernel_rfl
theorem laidOut : laidOutB Tryd.prog = true := by kernel_rfl
set_option maxRecDepth 100000 in
theorem lifted (os : Os) (started : os.Started) (H : Type) (enc : TypeId × Value → H) :
    ReturnsInHanded {} Tryd.checked os 7 .any (fun w args => (Rows.wordsReadOpSpec.pre enc Tryd.prog Tryd.f7 [] false w args ∧ laidMetH Tryd.prog laid w) ∧ sizedMet enc Tryd.prog Tryd.f7 (OpenSpec.ofChange Rows.wordsReadOpSpec) false w args) (Rows.wordsReadOpSpec.post enc Tryd.prog Tryd.f7 false true false false) := by
  refine returnsInHanded_of_change_and (C := Tryd.checked) (X := fun w _ => laidMetH Tryd.prog laid w) (fun _ _ _ hh h => h.of_heap hh) own started (by kernel_rfl) Tryd.func7
    (ChangeSpec.witness_shaped (enc := enc) (C := Tryd.checked) (os := os) (X := fun w _ => laidMetH Tryd.prog laid w) false (World.doorLaid Tryd.prog 400 os) #[.slice none 0 0, .slice none 0 0] 8 rfl (World.shaped_of_RefB (by kernel_rfl) (by kernel_rfl)) (by kernel_rfl) (by kernel_rfl) (by kernel_rfl) (door_met os _)) ?_
  intro W base args ds gs before hval0 hW hcnd hsz0 hL _
  have hsz : (DataW.weightsEach Tryd.prog (Tryd.f7.params.toList ++ Rows.wordsReadOpSpec.plain.varTypes Tryd.prog) (ds ++ gs)).all (· ≤ reachBytes) = true := hsz0
  have hval : ∀ (j : Nat) t v, Tryd.f7.params[j]? = some t → args[j]? = some v → Value.okWide Tryd.prog W .any base t v := hval0
  have hW' := hW
  obtain ⟨p, q, hA0, hV, rfl, hfz, hnd⟩ := hW
  have hA : DataW.TrodAll enc Tryd.prog W 0 (fun _ => true) true Tryd.f7.params.toList args.toList ds p := hA0
  rw [Tryd.params7] at hA hval hsz
  obtain ⟨v0, vs0, d0, ds0, p0, q0, hargs, rfl, rfl, h0, r0⟩ := trodAll_cons hA
  obtain ⟨v1, vs1, d1, ds1, p1, q1, rfl, rfl, rfl, h1, r1⟩ := trodAll_cons r0
  obtain ⟨rfl, rfl, rfl⟩ := trodAll_nil r1
  obtain rfl : args = #[v0, v1] := by cases args; simp_all
  obtain ⟨rfl, rfl⟩ := trodVars_none hV
  have k0 := h0
  have lt0 : ∀ x ∈ p0, x.block < W.heap.size := by obtain ⟨m, hm⟩ := k0; exact DataW.trod_lt m _ _ _ hm
  obtain ⟨A0, len0, cap0, rfl⟩ := okWide_slice Tryd.underlying26 (hval 0 26 v0 rfl rfl)
  obtain ⟨l0, hl0, hC0, hlc0, hby0⟩ := Opn.strs (Opn.sz_of hsz (j := 0) rfl rfl) h0
  subst hl0
  have k1 := h1
  have lt1 : ∀ x ∈ p1, x.block < W.heap.size := by obtain ⟨m, hm⟩ := k1; exact DataW.trod_lt m _ _ _ hm
  obtain ⟨A1, len1, cap1, rfl⟩ := okWide_slice Tryd.underlying26 (hval 1 26 v1 rfl rfl)
  obtain ⟨l1, hl1, hC1, hlc1, hby1⟩ := Opn.strs (Opn.sz_of hsz (j := 1) rfl rfl) h1
  subst hl1
  clear hA0 hval0 hsz0 hsz
  have hTab := of_laid hL
  have hCd := of_laid2 hL
  refine (Wd.readop_row W hTab hCd A0 cap0 l0 hC0 hlc0 hby0 A1 cap1 l1 hC1 hlc1 hby1).mono fun e W' ⟨he, bel⟩ => ?_
  subst he
  exact ⟨_, rfl, _, _, _, [], _, [], hW', trodAll_mk1 (shut_bool Tryd.underlying4 _), (trodAll_cons_mk (Below.trod laidOut (by kernel_rfl) (of_decide_eq_true (by kernel_rfl)) k0 bel lt0) (trodAll_cons_mk (Below.trod laidOut (by kernel_rfl) (of_decide_eq_true (by kernel_rfl)) k1 bel lt1) trodAll_mk0)), rfl, bel.frame _, fun h => by cases h⟩
theorem over : Rows.wordsReadOpRow.holds Tryd.pinned (OpenSpec.ofChange Rows.wordsReadOpSpec) :=
  OpenClaim.holds_of_wide 7 Tryd.f7 rfl rfl rfl rfl rfl rfl rfl ⟨rfl, rfl, rfl, rfl, rfl⟩ rfl rfl rfl rfl rfl (by kernel_rfl) Tryd.func7 (by kernel_rfl)
    (of_decide_eq_true (by kernel_rfl)) (by unfold Func.isWrapper; first | (rw [if_pos (by decide +kernel)]; kernel_rfl) | (rw [if_neg (by decide +kernel)]; exact ⟨rfl, rfl⟩))
    (fun os started H enc _ => lifted os started H enc)
theorem card_holds : Rows.WordsReadOpCardSaid :=
  Claim7.holds_tied_plain_at .later [] [.data, .data, .data, .sentinel, .sentinel, .data] true (true, "323a44a4a49cd40669fb7c5e5b16d573d6f6c180b4cdb52273e44c1422f1fb64") true
    over (fun _ h => by cases h) (by kernel_rfl) (fun _ h => by cases h) wordsReadOp_row_tie rfl ⟨rfl, rfl⟩ (by kernel_rfl) rfl
    (fun f fn hf hfn => by
      obtain rfl : f = 7 := Option.some.inj ((show Tryd.prog.funcNamed "flotilla/flotillalaw16.WordsReadOp" = some 7 by kernel_rfl).symm.trans hf) |>.symm
      obtain rfl : fn = Tryd.f7 := (Option.some.inj (Tryd.func7.symm.trans hfn)).symm
      exact ⟨by kernel_rfl, fun j t ht => by
        rw [Tryd.params7] at ht
        have hm : t ∈ [26, 26] := by simpa using Array.mem_of_getElem? ht
        have hall : ([26, 26].all fun u => !Tryd.prog.wantsStandIn u) = true := by kernel_rfl
        exact (show Tryd.prog.wantsStandIn t = false by simpa using List.all_eq_true.1 hall t hm)⟩)
    (by kernel_rfl)
#print axioms card_holds
end Go.Proofs.YtdhlbdllidfenaaDoor.wordsReadOp
namespace Go.Proofs.YtdhlbdllidfenaaDoor
/-- The card, under a short name, for the claim. -/
theorem wordsReadOp_holds : Rows.WordsReadOpCardSaid := wordsReadOp.card_holds
end Go.Proofs.YtdhlbdllidfenaaDoor
