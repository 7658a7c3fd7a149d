/- Words: the table of the ops' forms, as the program lays it; kindOf, walked (printed by a program of ours). Conditions: the table lies as the program's text lays it. -/
import Derived.Test.YtdhlbdllidfenaaDoorOpE
import Derived.Test.YtdhlbdllidfenaaDoorReE
namespace Go.Proofs.YtdhlbdllidfenaaDoor.Wd
open Go.RowKit Go.Proofs.YtdhlbdllidfenaaDoor.Mem
set_option linter.unusedVariables false
set_option linter.unusedSimpArgs false
def formsL : List (List UInt8) := [[], [], [109, 97, 107, 101], [110], [100, 114, 111, 112], [110], [112, 117, 115, 104], [110, 116], [116, 114, 105, 109], [110, 107], [116, 97, 107, 101], [110, 116], [114, 101, 97, 100], [110, 107, 109], [99, 111, 117, 110, 116], [110], [108, 105, 115, 116], []]
/-- the ops' forms, as the program lays them -/
def Cf (w : World) : Prop := ∃ t fr, w.heap[1]? = some (.cells (formsL.map sv).toArray t fr)
theorem Cf.fr {w w1 : World} (h : Cf w) (hf : Fr No w w1) : Cf w1 := by
  obtain ⟨t, fr, h⟩ := h
  exact ⟨t, fr, (hf.block 1 (lt_of_some h) id).trans h⟩
theorem Cf.at_ {w : World} (h : Cf w) (k : Nat) (hk : k < 18) : w.cell? ⟨1, k, none⟩ = some (sv (formsL.getD k [])) := by
  obtain ⟨t, fr, h⟩ := h
  have hl : k < formsL.length := hk
  simp only [World.cell?, h]
  rw [List.getElem?_toArray, List.getElem?_map, List.getElem?_eq_getElem hl]
  simp [List.getD, List.getElem?_eq_getElem hl]
theorem forms_opaque : ∃ Q : Nat → ByteArray, (∀ k, k < 18 → (⟨(formsL.getD k []).toArray⟩ : ByteArray) = Q k) ∧ ∀ (w : World), Cf w → w.cell? ⟨1, 0, none⟩ = some (.string (Q 0)) ∧ w.cell? ⟨1, 1, none⟩ = some (.string (Q 1)) ∧ w.cell? ⟨1, 2, none⟩ = some (.string (Q 2)) ∧ w.cell? ⟨1, 3, none⟩ = some (.string (Q 3)) ∧ w.cell? ⟨1, 4, none⟩ = some (.string (Q 4)) ∧ w.cell? ⟨1, 5, none⟩ = some (.string (Q 5)) ∧ w.cell? ⟨1, 6, none⟩ = some (.string (Q 6)) ∧ w.cell? ⟨1, 7, none⟩ = some (.string (Q 7)) ∧ w.cell? ⟨1, 8, none⟩ = some (.string (Q 8)) ∧ w.cell? ⟨1, 9, none⟩ = some (.string (Q 9)) ∧ w.cell? ⟨1, 10, none⟩ = some (.string (Q 10)) ∧ w.cell? ⟨1, 11, none⟩ = some (.string (Q 11)) ∧ w.cell? ⟨1, 12, none⟩ = some (.string (Q 12)) ∧ w.cell? ⟨1, 13, none⟩ = some (.string (Q 13)) ∧ w.cell? ⟨1, 14, none⟩ = some (.string (Q 14)) ∧ w.cell? ⟨1, 15, none⟩ = some (.string (Q 15)) ∧ w.cell? ⟨1, 16, none⟩ = some (.string (Q 16)) ∧ w.cell? ⟨1, 17, none⟩ = some (.string (Q 17)) :=
  ⟨fun k => ⟨(formsL.getD k []).toArray⟩, fun k _ => rfl, fun w h => ⟨h.at_ 0 (by omega), h.at_ 1 (by omega), h.at_ 2 (by omega), h.at_ 3 (by omega), h.at_ 4 (by omega), h.at_ 5 (by omega), h.at_ 6 (by omega), h.at_ 7 (by omega), h.at_ 8 (by omega), h.at_ 9 (by omega), h.at_ 10 (by omega), h.at_ 11 (by omega), h.at_ 12 (by omega), h.at_ 13 (by omega), h.at_ 14 (by omega), h.at_ 15 (by omega), h.at_ 16 (by omega), h.at_ 17 (by omega)⟩⟩
theorem run66 (Q : Nat → ByteArray) (W : World) :
    (Instr.index 66 (.agg #[.string (Q 0), .string (Q 1), .string (Q 2), .string (Q 3), .string (Q 4), .string (Q 5), .string (Q 6), .string (Q 7), .string (Q 8), .string (Q 9), .string (Q 10), .string (Q 11), .string (Q 12), .string (Q 13), .string (Q 14), .string (Q 15), .string (Q 16), .string (Q 17)]) (.int .i64 0)).run Tryd.prog W = .ok (.agg #[.string (Q 0), .string (Q 1)]) W ∧
    (Instr.index 66 (.agg #[.string (Q 0), .string (Q 1), .string (Q 2), .string (Q 3), .string (Q 4), .string (Q 5), .string (Q 6), .string (Q 7), .string (Q 8), .string (Q 9), .string (Q 10), .string (Q 11), .string (Q 12), .string (Q 13), .string (Q 14), .string (Q 15), .string (Q 16), .string (Q 17)]) (.int .i64 1)).run Tryd.prog W = .ok (.agg #[.string (Q 2), .string (Q 3)]) W ∧
    (Instr.index 66 (.agg #[.string (Q 0), .string (Q 1), .string (Q 2), .string (Q 3), .string (Q 4), .string (Q 5), .string (Q 6), .string (Q 7), .string (Q 8), .string (Q 9), .string (Q 10), .string (Q 11), .string (Q 12), .string (Q 13), .string (Q 14), .string (Q 15), .string (Q 16), .string (Q 17)]) (.int .i64 2)).run Tryd.prog W = .ok (.agg #[.string (Q 4), .string (Q 5)]) W ∧
    (Instr.index 66 (.agg #[.string (Q 0), .string (Q 1), .string (Q 2), .string (Q 3), .string (Q 4), .string (Q 5), .string (Q 6), .string (Q 7), .string (Q 8), .string (Q 9), .string (Q 10), .string (Q 11), .string (Q 12), .string (Q 13), .string (Q 14), .string (Q 15), .string (Q 16), .string (Q 17)]) (.int .i64 3)).run Tryd.prog W = .ok (.agg #[.string (Q 6), .string (Q 7)]) W ∧
    (Instr.index 66 (.agg #[.string (Q 0), .string (Q 1), .string (Q 2), .string (Q 3), .string (Q 4), .string (Q 5), .string (Q 6), .string (Q 7), .string (Q 8), .string (Q 9), .string (Q 10), .string (Q 11), .string (Q 12), .string (Q 13), .string (Q 14), .string (Q 15), .string (Q 16), .string (Q 17)]) (.int .i64 4)).run Tryd.prog W = .ok (.agg #[.string (Q 8), .string (Q 9)]) W ∧
    (Instr.index 66 (.agg #[.string (Q 0), .string (Q 1), .string (Q 2), .string (Q 3), .string (Q 4), .string (Q 5), .string (Q 6), .string (Q 7), .string (Q 8), .string (Q 9), .string (Q 10), .string (Q 11), .string (Q 12), .string (Q 13), .string (Q 14), .string (Q 15), .string (Q 16), .string (Q 17)]) (.int .i64 5)).run Tryd.prog W = .ok (.agg #[.string (Q 10), .string (Q 11)]) W ∧
    (Instr.index 66 (.agg #[.string (Q 0), .string (Q 1), .string (Q 2), .string (Q 3), .string (Q 4), .string (Q 5), .string (Q 6), .string (Q 7), .string (Q 8), .string (Q 9), .string (Q 10), .string (Q 11), .string (Q 12), .string (Q 13), .string (Q 14), .string (Q 15), .string (Q 16), .string (Q 17)]) (.int .i64 6)).run Tryd.prog W = .ok (.agg #[.string (Q 12), .string (Q 13)]) W ∧
    (Instr.index 66 (.agg #[.string (Q 0), .string (Q 1), .string (Q 2), .string (Q 3), .string (Q 4), .string (Q 5), .string (Q 6), .string (Q 7), .string (Q 8), .string (Q 9), .string (Q 10), .string (Q 11), .string (Q 12), .string (Q 13), .string (Q 14), .string (Q 15), .string (Q 16), .string (Q 17)]) (.int .i64 7)).run Tryd.prog W = .ok (.agg #[.string (Q 14), .string (Q 15)]) W ∧
    (Instr.index 66 (.agg #[.string (Q 0), .string (Q 1), .string (Q 2), .string (Q 3), .string (Q 4), .string (Q 5), .string (Q 6), .string (Q 7), .string (Q 8), .string (Q 9), .string (Q 10), .string (Q 11), .string (Q 12), .string (Q 13), .string (Q 14), .string (Q 15), .string (Q 16), .string (Q 17)]) (.int .i64 8)).run Tryd.prog W = .ok (.agg #[.string (Q 16), .string (Q 17)]) W := by
  have hu : Tryd.prog.underlying 66 = some (.array 9 65) := by kernel_rfl
  have hel : Tryd.prog.elem 66 = 65 := by kernel_rfl
  have hc : Tryd.prog.cellsOf 65 = 2 := by kernel_rfl
  refine ⟨?_, ?_, ?_, ?_, ?_, ?_, ?_, ?_, ?_⟩ <;> simp [Instr.index, run_underlying hu, asIntOf, go_sem]
theorem forall_and9 {A : World → Prop} {B C D E F G H I : World → Prop} (h : ∀ W, A W ∧ B W ∧ C W ∧ D W ∧ E W ∧ F W ∧ G W ∧ H W ∧ I W) : (∀ W, A W) ∧ (∀ W, B W) ∧ (∀ W, C W) ∧ (∀ W, D W) ∧ (∀ W, E W) ∧ (∀ W, F W) ∧ (∀ W, G W) ∧ (∀ W, H W) ∧ (∀ W, I W) :=
  ⟨fun W => (h W).1, fun W => (h W).2.1, fun W => (h W).2.2.1, fun W => (h W).2.2.2.1, fun W => (h W).2.2.2.2.1, fun W => (h W).2.2.2.2.2.1, fun W => (h W).2.2.2.2.2.2.1, fun W => (h W).2.2.2.2.2.2.2.1, fun W => (h W).2.2.2.2.2.2.2.2⟩
theorem form_is {Q : Nat → ByteArray} (hQ : ∀ k, k < 18 → (⟨(formsL.getD k []).toArray⟩ : ByteArray) = Q k) {u : List UInt8} {p : ByteArray} (hp : (⟨u.toArray⟩ : ByteArray) = p) {k : Nat} (hk : k < 18) : Q k = p ↔ formsL.getD k [] = u := by
  rw [← hQ k hk, ← hp]; exact mk_inj
/-- what kindOf answers -/
def kindZ (u : List UInt8) : Int := if kindK u < 0 then 0 else kindK u
theorem kind_at : ∀ k : Nat, 1 ≤ k → k ≤ 8 → kindK (kindsL.getD k []) = (k : Int)
  | 1, _, _ => by decide
  | 2, _, _ => by decide
  | 3, _, _ => by decide
  | 4, _, _ => by decide
  | 5, _, _ => by decide
  | 6, _, _ => by decide
  | 7, _, _ => by decide
  | 8, _, _ => by decide
theorem kind_ne {i j : Nat} (hi : 1 ≤ i) (hi8 : i ≤ 8) (hj : 1 ≤ j) (hj8 : j ≤ 8) (h : i ≠ j) : kindsL.getD i [] ≠ kindsL.getD j [] := by
  intro e
  have h1 := kind_at i hi hi8
  rw [e, kind_at j hj hj8] at h1
  omega
theorem kind_none {u : List UInt8} (h : kindK u = -1) {k : Nat} (h1 : 1 ≤ k) (h8 : k ≤ 8) : kindsL.getD k [] ≠ u := fun e => by
  rw [← e, kind_at k h1 h8] at h
  omega
set_option maxHeartbeats 8000000 in
set_option maxRecDepth 100000 in
theorem wKindOf (u : List UInt8) (w : World) (hC : Cf w) : Calls Tryd.prog 41 #[.string ⟨u.toArray⟩] w fun e w' => e = .returned (.int .i64 (kindZ u)) ∧ Fr No w w' := by
  obtain ⟨Q, hQ, hG⟩ := forms_opaque
  obtain ⟨p0, hp0⟩ : ∃ p0 : ByteArray, (⟨u.toArray⟩ : ByteArray) = p0 := ⟨_, rfl⟩
  rw [hp0]
  obtain ⟨g0, g1, g2, g3, g4, g5, g6, g7, g8, g9, g10, g11, g12, g13, g14, g15, g16, g17⟩ := hG w hC
  obtain ⟨ix0, ix1, ix2, ix3, ix4, ix5, ix6, ix7, ix8⟩ := forall_and9 (run66 Q)
  have HQ := Lib.hid hQ
  have HP0 := Lib.hid hp0
  clear hQ hp0 hG hC
  rcases kind_cases u with h | ⟨k, k1, k8, h, hu⟩
  · have HR := Lib.hid (show kindZ u = 0 by unfold kindZ; rw [if_pos (by omega)])
    have e1 := toList_ne (fun q => kind_none h (k := 1) (by omega) (by omega) ((form_is HQ.out HP0.out (k := 2) (by omega)).1 q))
    have e2 := toList_ne (fun q => kind_none h (k := 2) (by omega) (by omega) ((form_is HQ.out HP0.out (k := 4) (by omega)).1 q))
    have e3 := toList_ne (fun q => kind_none h (k := 3) (by omega) (by omega) ((form_is HQ.out HP0.out (k := 6) (by omega)).1 q))
    have e4 := toList_ne (fun q => kind_none h (k := 4) (by omega) (by omega) ((form_is HQ.out HP0.out (k := 8) (by omega)).1 q))
    have e5 := toList_ne (fun q => kind_none h (k := 5) (by omega) (by omega) ((form_is HQ.out HP0.out (k := 10) (by omega)).1 q))
    have e6 := toList_ne (fun q => kind_none h (k := 6) (by omega) (by omega) ((form_is HQ.out HP0.out (k := 12) (by omega)).1 q))
    have e7 := toList_ne (fun q => kind_none h (k := 7) (by omega) (by omega) ((form_is HQ.out HP0.out (k := 14) (by omega)).1 q))
    have e8 := toList_ne (fun q => kind_none h (k := 8) (by omega) (by omega) ((form_is HQ.out HP0.out (k := 16) (by omega)).1 q))
    clear h HQ HP0
    go_enter Tryd.func41, Tryd.ntmps41
    go_wp2
    refine wp_loop_rounds 10 ?_
    rw [rounds_succ]; go_wp2
    rw [rounds_succ]; go_wp2
    rw [rounds_succ]; go_wp2
    rw [rounds_succ]; go_wp2
    rw [rounds_succ]; go_wp2
    rw [rounds_succ]; go_wp2
    rw [rounds_succ]; go_wp2
    rw [rounds_succ]; go_wp2
    rw [rounds_succ]; go_wp2
    rw [rounds_succ]; go_wp2
    go_ret
    refine ⟨by rw [HR.out]; rfl, ?_⟩
    repeat (refine Fr.alloc ?_ _)
    exact Fr.refl _ _
  · match k, k1, k8, h, hu with
    | 1, k1, k8, h, hu =>
      have HR := Lib.hid (show kindZ u = 1 by unfold kindZ; rw [h]; rfl)
      have e1 := toList_yes ((form_is HQ.out HP0.out (k := 2) (by omega)).2 hu)
      have e2 := toList_ne (fun q => kind_ne (i := 2) (j := 1) (by omega) (by omega) (by omega) (by omega) (by omega) (((form_is HQ.out HP0.out (k := 4) (by omega)).1 q).trans hu.symm))
      have e3 := toList_ne (fun q => kind_ne (i := 3) (j := 1) (by omega) (by omega) (by omega) (by omega) (by omega) (((form_is HQ.out HP0.out (k := 6) (by omega)).1 q).trans hu.symm))
      have e4 := toList_ne (fun q => kind_ne (i := 4) (j := 1) (by omega) (by omega) (by omega) (by omega) (by omega) (((form_is HQ.out HP0.out (k := 8) (by omega)).1 q).trans hu.symm))
      have e5 := toList_ne (fun q => kind_ne (i := 5) (j := 1) (by omega) (by omega) (by omega) (by omega) (by omega) (((form_is HQ.out HP0.out (k := 10) (by omega)).1 q).trans hu.symm))
      have e6 := toList_ne (fun q => kind_ne (i := 6) (j := 1) (by omega) (by omega) (by omega) (by omega) (by omega) (((form_is HQ.out HP0.out (k := 12) (by omega)).1 q).trans hu.symm))
      have e7 := toList_ne (fun q => kind_ne (i := 7) (j := 1) (by omega) (by omega) (by omega) (by omega) (by omega) (((form_is HQ.out HP0.out (k := 14) (by omega)).1 q).trans hu.symm))
      have e8 := toList_ne (fun q => kind_ne (i := 8) (j := 1) (by omega) (by omega) (by omega) (by omega) (by omega) (((form_is HQ.out HP0.out (k := 16) (by omega)).1 q).trans hu.symm))
      clear h hu HQ HP0
      go_enter Tryd.func41, Tryd.ntmps41
      go_wp2
      refine wp_loop_rounds 10 ?_
      rw [rounds_succ]; go_wp2
      rw [rounds_succ]; go_wp2
      go_ret
      refine ⟨by rw [HR.out]; rfl, ?_⟩
      repeat (refine Fr.alloc ?_ _)
      exact Fr.refl _ _
    | 2, k1, k8, h, hu =>
      have HR := Lib.hid (show kindZ u = 2 by unfold kindZ; rw [h]; rfl)
      have e1 := toList_ne (fun q => kind_ne (i := 1) (j := 2) (by omega) (by omega) (by omega) (by omega) (by omega) (((form_is HQ.out HP0.out (k := 2) (by omega)).1 q).trans hu.symm))
      have e2 := toList_yes ((form_is HQ.out HP0.out (k := 4) (by omega)).2 hu)
      have e3 := toList_ne (fun q => kind_ne (i := 3) (j := 2) (by omega) (by omega) (by omega) (by omega) (by omega) (((form_is HQ.out HP0.out (k := 6) (by omega)).1 q).trans hu.symm))
      have e4 := toList_ne (fun q => kind_ne (i := 4) (j := 2) (by omega) (by omega) (by omega) (by omega) (by omega) (((form_is HQ.out HP0.out (k := 8) (by omega)).1 q).trans hu.symm))
      have e5 := toList_ne (fun q => kind_ne (i := 5) (j := 2) (by omega) (by omega) (by omega) (by omega) (by omega) (((form_is HQ.out HP0.out (k := 10) (by omega)).1 q).trans hu.symm))
      have e6 := toList_ne (fun q => kind_ne (i := 6) (j := 2) (by omega) (by omega) (by omega) (by omega) (by omega) (((form_is HQ.out HP0.out (k := 12) (by omega)).1 q).trans hu.symm))
      have e7 := toList_ne (fun q => kind_ne (i := 7) (j := 2) (by omega) (by omega) (by omega) (by omega) (by omega) (((form_is HQ.out HP0.out (k := 14) (by omega)).1 q).trans hu.symm))
      have e8 := toList_ne (fun q => kind_ne (i := 8) (j := 2) (by omega) (by omega) (by omega) (by omega) (by omega) (((form_is HQ.out HP0.out (k := 16) (by omega)).1 q).trans hu.symm))
      clear h hu HQ HP0
      go_enter Tryd.func41, Tryd.ntmps41
      go_wp2
      refine wp_loop_rounds 10 ?_
      rw [rounds_succ]; go_wp2
      rw [rounds_succ]; go_wp2
      rw [rounds_succ]; go_wp2
      go_ret
      refine ⟨by rw [HR.out]; rfl, ?_⟩
      repeat (refine Fr.alloc ?_ _)
      exact Fr.refl _ _
    | 3, k1, k8, h, hu =>
      have HR := Lib.hid (show kindZ u = 3 by unfold kindZ; rw [h]; rfl)
      have e1 := toList_ne (fun q => kind_ne (i := 1) (j := 3) (by omega) (by omega) (by omega) (by omega) (by omega) (((form_is HQ.out HP0.out (k := 2) (by omega)).1 q).trans hu.symm))
      have e2 := toList_ne (fun q => kind_ne (i := 2) (j := 3) (by omega) (by omega) (by omega) (by omega) (by omega) (((form_is HQ.out HP0.out (k := 4) (by omega)).1 q).trans hu.symm))
      have e3 := toList_yes ((form_is HQ.out HP0.out (k := 6) (by omega)).2 hu)
      have e4 := toList_ne (fun q => kind_ne (i := 4) (j := 3) (by omega) (by omega) (by omega) (by omega) (by omega) (((form_is HQ.out HP0.out (k := 8) (by omega)).1 q).trans hu.symm))
      have e5 := toList_ne (fun q => kind_ne (i := 5) (j := 3) (by omega) (by omega) (by omega) (by omega) (by omega) (((form_is HQ.out HP0.out (k := 10) (by omega)).1 q).trans hu.symm))
      have e6 := toList_ne (fun q => kind_ne (i := 6) (j := 3) (by omega) (by omega) (by omega) (by omega) (by omega) (((form_is HQ.out HP0.out (k := 12) (by omega)).1 q).trans hu.symm))
      have e7 := toList_ne (fun q => kind_ne (i := 7) (j := 3) (by omega) (by omega) (by omega) (by omega) (by omega) (((form_is HQ.out HP0.out (k := 14) (by omega)).1 q).trans hu.symm))
      have e8 := toList_ne (fun q => kind_ne (i := 8) (j := 3) (by omega) (by omega) (by omega) (by omega) (by omega) (((form_is HQ.out HP0.out (k := 16) (by omega)).1 q).trans hu.symm))
      clear h hu HQ HP0
      go_enter Tryd.func41, Tryd.ntmps41
      go_wp2
      refine wp_loop_rounds 10 ?_
      rw [rounds_succ]; go_wp2
      rw [rounds_succ]; go_wp2
      rw [rounds_succ]; go_wp2
      rw [rounds_succ]; go_wp2
      go_ret
      refine ⟨by rw [HR.out]; rfl, ?_⟩
      repeat (refine Fr.alloc ?_ _)
      exact Fr.refl _ _
    | 4, k1, k8, h, hu =>
      have HR := Lib.hid (show kindZ u = 4 by unfold kindZ; rw [h]; rfl)
      have e1 := toList_ne (fun q => kind_ne (i := 1) (j := 4) (by omega) (by omega) (by omega) (by omega) (by omega) (((form_is HQ.out HP0.out (k := 2) (by omega)).1 q).trans hu.symm))
      have e2 := toList_ne (fun q => kind_ne (i := 2) (j := 4) (by omega) (by omega) (by omega) (by omega) (by omega) (((form_is HQ.out HP0.out (k := 4) (by omega)).1 q).trans hu.symm))
      have e3 := toList_ne (fun q => kind_ne (i := 3) (j := 4) (by omega) (by omega) (by omega) (by omega) (by omega) (((form_is HQ.out HP0.out (k := 6) (by omega)).1 q).trans hu.symm))
      have e4 := toList_yes ((form_is HQ.out HP0.out (k := 8) (by omega)).2 hu)
      have e5 := toList_ne (fun q => kind_ne (i := 5) (j := 4) (by omega) (by omega) (by omega) (by omega) (by omega) (((form_is HQ.out HP0.out (k := 10) (by omega)).1 q).trans hu.symm))
      have e6 := toList_ne (fun q => kind_ne (i := 6) (j := 4) (by omega) (by omega) (by omega) (by omega) (by omega) (((form_is HQ.out HP0.out (k := 12) (by omega)).1 q).trans hu.symm))
      have e7 := toList_ne (fun q => kind_ne (i := 7) (j := 4) (by omega) (by omega) (by omega) (by omega) (by omega) (((form_is HQ.out HP0.out (k := 14) (by omega)).1 q).trans hu.symm))
      have e8 := toList_ne (fun q => kind_ne (i := 8) (j := 4) (by omega) (by omega) (by omega) (by omega) (by omega) (((form_is HQ.out HP0.out (k := 16) (by omega)).1 q).trans hu.symm))
      clear h hu HQ HP0
      go_enter Tryd.func41, Tryd.ntmps41
      go_wp2
      refine wp_loop_rounds 10 ?_
      rw [rounds_succ]; go_wp2
      rw [rounds_succ]; go_wp2
      rw [rounds_succ]; go_wp2
      rw [rounds_succ]; go_wp2
      rw [rounds_succ]; go_wp2
      go_ret
      refine ⟨by rw [HR.out]; rfl, ?_⟩
      repeat (refine Fr.alloc ?_ _)
      exact Fr.refl _ _
    | 5, k1, k8, h, hu =>
      have HR := Lib.hid (show kindZ u = 5 by unfold kindZ; rw [h]; rfl)
      have e1 := toList_ne (fun q => kind_ne (i := 1) (j := 5) (by omega) (by omega) (by omega) (by omega) (by omega) (((form_is HQ.out HP0.out (k := 2) (by omega)).1 q).trans hu.symm))
      have e2 := toList_ne (fun q => kind_ne (i := 2) (j := 5) (by omega) (by omega) (by omega) (by omega) (by omega) (((form_is HQ.out HP0.out (k := 4) (by omega)).1 q).trans hu.symm))
      have e3 := toList_ne (fun q => kind_ne (i := 3) (j := 5) (by omega) (by omega) (by omega) (by omega) (by omega) (((form_is HQ.out HP0.out (k := 6) (by omega)).1 q).trans hu.symm))
      have e4 := toList_ne (fun q => kind_ne (i := 4) (j := 5) (by omega) (by omega) (by omega) (by omega) (by omega) (((form_is HQ.out HP0.out (k := 8) (by omega)).1 q).trans hu.symm))
      have e5 := toList_yes ((form_is HQ.out HP0.out (k := 10) (by omega)).2 hu)
      have e6 := toList_ne (fun q => kind_ne (i := 6) (j := 5) (by omega) (by omega) (by omega) (by omega) (by omega) (((form_is HQ.out HP0.out (k := 12) (by omega)).1 q).trans hu.symm))
      have e7 := toList_ne (fun q => kind_ne (i := 7) (j := 5) (by omega) (by omega) (by omega) (by omega) (by omega) (((form_is HQ.out HP0.out (k := 14) (by omega)).1 q).trans hu.symm))
      have e8 := toList_ne (fun q => kind_ne (i := 8) (j := 5) (by omega) (by omega) (by omega) (by omega) (by omega) (((form_is HQ.out HP0.out (k := 16) (by omega)).1 q).trans hu.symm))
      clear h hu HQ HP0
      go_enter Tryd.func41, Tryd.ntmps41
      go_wp2
      refine wp_loop_rounds 10 ?_
      rw [rounds_succ]; go_wp2
      rw [rounds_succ]; go_wp2
      rw [rounds_succ]; go_wp2
      rw [rounds_succ]; go_wp2
      rw [rounds_succ]; go_wp2
      rw [rounds_succ]; go_wp2
      go_ret
      refine ⟨by rw [HR.out]; rfl, ?_⟩
      repeat (refine Fr.alloc ?_ _)
      exact Fr.refl _ _
    | 6, k1, k8, h, hu =>
      have HR := Lib.hid (show kindZ u = 6 by unfold kindZ; rw [h]; rfl)
      have e1 := toList_ne (fun q => kind_ne (i := 1) (j := 6) (by omega) (by omega) (by omega) (by omega) (by omega) (((form_is HQ.out HP0.out (k := 2) (by omega)).1 q).trans hu.symm))
      have e2 := toList_ne (fun q => kind_ne (i := 2) (j := 6) (by omega) (by omega) (by omega) (by omega) (by omega) (((form_is HQ.out HP0.out (k := 4) (by omega)).1 q).trans hu.symm))
      have e3 := toList_ne (fun q => kind_ne (i := 3) (j := 6) (by omega) (by omega) (by omega) (by omega) (by omega) (((form_is HQ.out HP0.out (k := 6) (by omega)).1 q).trans hu.symm))
      have e4 := toList_ne (fun q => kind_ne (i := 4) (j := 6) (by omega) (by omega) (by omega) (by omega) (by omega) (((form_is HQ.out HP0.out (k := 8) (by omega)).1 q).trans hu.symm))
      have e5 := toList_ne (fun q => kind_ne (i := 5) (j := 6) (by omega) (by omega) (by omega) (by omega) (by omega) (((form_is HQ.out HP0.out (k := 10) (by omega)).1 q).trans hu.symm))
      have e6 := toList_yes ((form_is HQ.out HP0.out (k := 12) (by omega)).2 hu)
      have e7 := toList_ne (fun q => kind_ne (i := 7) (j := 6) (by omega) (by omega) (by omega) (by omega) (by omega) (((form_is HQ.out HP0.out (k := 14) (by omega)).1 q).trans hu.symm))
      have e8 := toList_ne (fun q => kind_ne (i := 8) (j := 6) (by omega) (by omega) (by omega) (by omega) (by omega) (((form_is HQ.out HP0.out (k := 16) (by omega)).1 q).trans hu.symm))
      clear h hu HQ HP0
      go_enter Tryd.func41, Tryd.ntmps41
      go_wp2
      refine wp_loop_rounds 10 ?_
      rw [rounds_succ]; go_wp2
      rw [rounds_succ]; go_wp2
      rw [rounds_succ]; go_wp2
      rw [rounds_succ]; go_wp2
      rw [rounds_succ]; go_wp2
      rw [rounds_succ]; go_wp2
      rw [rounds_succ]; go_wp2
      go_ret
      refine ⟨by rw [HR.out]; rfl, ?_⟩
      repeat (refine Fr.alloc ?_ _)
      exact Fr.refl _ _
    | 7, k1, k8, h, hu =>
      have HR := Lib.hid (show kindZ u = 7 by unfold kindZ; rw [h]; rfl)
      have e1 := toList_ne (fun q => kind_ne (i := 1) (j := 7) (by omega) (by omega) (by omega) (by omega) (by omega) (((form_is HQ.out HP0.out (k := 2) (by omega)).1 q).trans hu.symm))
      have e2 := toList_ne (fun q => kind_ne (i := 2) (j := 7) (by omega) (by omega) (by omega) (by omega) (by omega) (((form_is HQ.out HP0.out (k := 4) (by omega)).1 q).trans hu.symm))
      have e3 := toList_ne (fun q => kind_ne (i := 3) (j := 7) (by omega) (by omega) (by omega) (by omega) (by omega) (((form_is HQ.out HP0.out (k := 6) (by omega)).1 q).trans hu.symm))
      have e4 := toList_ne (fun q => kind_ne (i := 4) (j := 7) (by omega) (by omega) (by omega) (by omega) (by omega) (((form_is HQ.out HP0.out (k := 8) (by omega)).1 q).trans hu.symm))
      have e5 := toList_ne (fun q => kind_ne (i := 5) (j := 7) (by omega) (by omega) (by omega) (by omega) (by omega) (((form_is HQ.out HP0.out (k := 10) (by omega)).1 q).trans hu.symm))
      have e6 := toList_ne (fun q => kind_ne (i := 6) (j := 7) (by omega) (by omega) (by omega) (by omega) (by omega) (((form_is HQ.out HP0.out (k := 12) (by omega)).1 q).trans hu.symm))
      have e7 := toList_yes ((form_is HQ.out HP0.out (k := 14) (by omega)).2 hu)
      have e8 := toList_ne (fun q => kind_ne (i := 8) (j := 7) (by omega) (by omega) (by omega) (by omega) (by omega) (((form_is HQ.out HP0.out (k := 16) (by omega)).1 q).trans hu.symm))
      clear h hu HQ HP0
      go_enter Tryd.func41, Tryd.ntmps41
      go_wp2
      refine wp_loop_rounds 10 ?_
      rw [rounds_succ]; go_wp2
      rw [rounds_succ]; go_wp2
      rw [rounds_succ]; go_wp2
      rw [rounds_succ]; go_wp2
      rw [rounds_succ]; go_wp2
      rw [rounds_succ]; go_wp2
      rw [rounds_succ]; go_wp2
      rw [rounds_succ]; go_wp2
      go_ret
      refine ⟨by rw [HR.out]; rfl, ?_⟩
      repeat (refine Fr.alloc ?_ _)
      exact Fr.refl _ _
    | 8, k1, k8, h, hu =>
      have HR := Lib.hid (show kindZ u = 8 by unfold kindZ; rw [h]; rfl)
      have e1 := toList_ne (fun q => kind_ne (i := 1) (j := 8) (by omega) (by omega) (by omega) (by omega) (by omega) (((form_is HQ.out HP0.out (k := 2) (by omega)).1 q).trans hu.symm))
      have e2 := toList_ne (fun q => kind_ne (i := 2) (j := 8) (by omega) (by omega) (by omega) (by omega) (by omega) (((form_is HQ.out HP0.out (k := 4) (by omega)).1 q).trans hu.symm))
      have e3 := toList_ne (fun q => kind_ne (i := 3) (j := 8) (by omega) (by omega) (by omega) (by omega) (by omega) (((form_is HQ.out HP0.out (k := 6) (by omega)).1 q).trans hu.symm))
      have e4 := toList_ne (fun q => kind_ne (i := 4) (j := 8) (by omega) (by omega) (by omega) (by omega) (by omega) (((form_is HQ.out HP0.out (k := 8) (by omega)).1 q).trans hu.symm))
      have e5 := toList_ne (fun q => kind_ne (i := 5) (j := 8) (by omega) (by omega) (by omega) (by omega) (by omega) (((form_is HQ.out HP0.out (k := 10) (by omega)).1 q).trans hu.symm))
      have e6 := toList_ne (fun q => kind_ne (i := 6) (j := 8) (by omega) (by omega) (by omega) (by omega) (by omega) (((form_is HQ.out HP0.out (k := 12) (by omega)).1 q).trans hu.symm))
      have e7 := toList_ne (fun q => kind_ne (i := 7) (j := 8) (by omega) (by omega) (by omega) (by omega) (by omega) (((form_is HQ.out HP0.out (k := 14) (by omega)).1 q).trans hu.symm))
      have e8 := toList_yes ((form_is HQ.out HP0.out (k := 16) (by omega)).2 hu)
      clear h hu HQ HP0
      go_enter Tryd.func41, Tryd.ntmps41
      go_wp2
      refine wp_loop_rounds 10 ?_
      rw [rounds_succ]; go_wp2
      rw [rounds_succ]; go_wp2
      rw [rounds_succ]; go_wp2
      rw [rounds_succ]; go_wp2
      rw [rounds_succ]; go_wp2
      rw [rounds_succ]; go_wp2
      rw [rounds_succ]; go_wp2
      rw [rounds_succ]; go_wp2
      rw [rounds_succ]; go_wp2
      go_ret
      refine ⟨by rw [HR.out]; rfl, ?_⟩
      repeat (refine Fr.alloc ?_ _)
      exact Fr.refl _ _
end Go.Proofs.YtdhlbdllidfenaaDoor.Wd
