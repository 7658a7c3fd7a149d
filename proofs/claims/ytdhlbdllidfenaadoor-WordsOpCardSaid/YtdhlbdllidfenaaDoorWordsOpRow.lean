/-
  Proved: Op's answers are the document's, of any op, asked again and of another between; ReadOp reads what it writes with whatever behind it; what is handed out belongs to the caller: WordsOp answers true for every input. Conditions: the tables that the program's text and the library lay stand as they were laid.
    The frame was written by a program of ours.
-/
import Derived.Test.YtdhlbdllidfenaaDoorOpI
import Derived.Test.YtdhlbdllidfenaaDoorOpF
import Derived.Lib.LaidTab
import Derived.Test.YtdhlbdllidfenaaDoorOpH
import Derived.Test.YtdhlbdllidfenaaDoorReD
import Derived.Test.YtdhlbdllidfenaaDoorReH
import Derived.Test.YtdhlbdllidfenaaDoorOpB
import Derived.Test.YtdhlbdllidfenaaDoorOpn
import Derived.Test.YtdhlbdllidfenaaDoorRows
import Derived.Test.YtdhlbdllidfenaaDoorTie
import Derived.Test.YtdhlbdllidfenaaDoorCards
import Derived.Test.YtdhlbdllidfenaaDoorWdQ
import Derived.SevenTiedAt
import Derived.LaidMore
import Derived.Stop.Joined
import Derived.Stop.LaidErr
import Derived.LaidSub
import Derived.WalkKit
import Derived.ProofKit
import Derived.OpenShut
import Derived.ShutString
import Derived.ChangeOld
import Derived.Below
import Derived.SizedLaws
namespace Go.Proofs.YtdhlbdllidfenaaDoor.Wd
open Go.RowKit Go.Proofs.YtdhlbdllidfenaaDoor.Mem
open Go.Proofs.YtdhlbdllidfenaaDoor.Nu (numL numE wNumber rNumber Vs num_dec num_is)
set_option linter.unusedVariables false
set_option linter.unusedSimpArgs false
theorem reado_none {u : List UInt8} {r : List (List UInt8)} (h : kindK u = -1) : readO (u :: r) = (ov0, 0, 163) := by
  unfold readO
  dsimp only
  rw [h]; rfl
set_option maxHeartbeats 4000000 in
set_option maxRecDepth 100000 in
theorem wReadO_none (A : Option Addr) (n c : Nat) (u : List UInt8) (r : List (List UInt8)) (hk : kindK u = -1) (hl : (u :: r).length = n) (hn : n ≤ 8796093022000) (w : World) (hT : TR Any w A (u :: r)) (hC : Cf w) :
    Calls Tryd.prog 25 #[.slice A n c] w (Ro w (readO (u :: r))) := by
  have hz : kindZ u = 0 := by unfold kindZ; rw [if_pos (by omega)]
  have HKO := Lib.hid (fun W (hW : Fr No w W) => wKindOf u W (hC.fr hW))
  rw [hz] at HKO
  have HR := Lib.hid (reado_none (r := r) hk)
  have hn0 : 0 < n := by rw [← hl]; simp
  have hn0i : (0 : Int) < (n : Int) := by omega
  have hne : ((n : Int) == 0) = false := by rw [beq_eq_false_iff_ne]; omega
  obtain ⟨ad, hA, hc0⟩ := hT.at_ 0 (by simp)
  subst hA
  obtain ⟨p0, hp0⟩ : ∃ p0 : ByteArray, (⟨u.toArray⟩ : ByteArray) = p0 := ⟨_, rfl⟩
  have hc0 : w.cell? ad = some (.string p0) := by have h := hc0; rw [← hp0]; exact h
  rw [hp0] at HKO
  have HC := Lib.hid hC
  have hcz := keepC ((Fr.refl No w).alloc ZO) hc0 id
  unfold ZO at hcz
  clear hk hz hT hC hl hp0
  go_enter Tryd.func25, Tryd.ntmps25
  go_wp2_with fail
  refine (HKO.out _ ((Fr.refl _ _).alloc _)).mono ?_
  rintro e w1 ⟨rfl, hF1⟩
  have HZ1 := Lib.hid (show Bk w1 w.heap.size 44 [.int .i64 0, .string ⟨#[]⟩, .string ⟨#[]⟩, .int .i64 0, .int .i64 0] from (Bk.new w 44 [.int .i64 0, .string ⟨#[]⟩, .string ⟨#[]⟩, .int .i64 0, .int .i64 0]).fr (S := No) hF1 id)
  have HF1 := Lib.hid (show Fr No w w1 from ((Fr.refl No w).alloc _).then_ hF1)
  obtain ⟨w2, hw2⟩ : ∃ w2, w1.alloc (.cells #[.int .i64 0, .string ⟨#[]⟩, .string ⟨#[]⟩, .int .i64 0, .int .i64 0] 44 (0, 0)) = w2 := ⟨_, rfl⟩
  obtain ⟨bo, hbo⟩ : ∃ bo, w1.heap.size = bo := ⟨_, rfl⟩
  have HM2 := Lib.hid (show MidO w w2 bo 0 ⟨#[]⟩ ⟨#[]⟩ 0 0 by
    rw [← hw2, ← hbo]
    exact ⟨HZ1.out.alloc _, Bk.new w1 44 [.int .i64 0, .string ⟨#[]⟩, .string ⟨#[]⟩, .int .i64 0, .int .i64 0], HF1.out.alloc _, HZ1.out.lt⟩)
  have HW2 := Lib.hid hw2
  have HBO := Lib.hid hbo
  clear hF1 HKO hw2 hbo hcz
  go_upto_region 4 with (fail)
  rw [HW2.out, HBO.out]
  clear HW2 HBO
  have hfw : w2.cell? ⟨1, 1, none⟩ = some (.string ⟨#[]⟩) := (HC.out.fr HM2.out.fr).at_ 1 (by omega)
  obtain ⟨o0, o1, o2, o3, o4, of⟩ := Bk.five HM2.out.o
  obtain ⟨z0, z1, z2, z3, z4, zf⟩ := Bk.five HM2.out.z
  go_wp2
  refine bodyPost_ret (v := .tuple #[.agg #[.int .i64 0, .string ⟨#[]⟩, .string ⟨#[]⟩, .int .i64 0, .int .i64 0], .int .i64 0, .int .i64 163]) (by simp [results, Tryd.results25, go_sem, z0, z1, z2, z3, z4, zf]) rfl ⟨by rw [HR.out]; rfl, ?_⟩
  repeat (refine Fr.set ?_ (.inr (by simp)) _)
  exact HM2.out.fr
set_option maxHeartbeats 4000000 in
set_option maxRecDepth 100000 in
theorem wReadO (A : Option Addr) (n c : Nat) (l : List (List UInt8)) (hl : l.length = n) (hn : n ≤ 8796093022000) (hx : ∀ x ∈ l, x.length ≤ 140737488351232) (w : World) (hT : TR Any w A l) (hV : Vs w) (hC : Cf w) :
    Calls Tryd.prog 25 #[.slice A n c] w (Ro w (readO l)) := by
  match l, hl with
  | [], hl =>
    obtain rfl : n = 0 := hl.symm
    go_enter Tryd.func25, Tryd.ntmps25
    go_wp2
    refine bodyPost_ret (v := .tuple #[.agg #[.int .i64 0, .string ⟨#[]⟩, .string ⟨#[]⟩, .int .i64 0, .int .i64 0], .int .i64 0, .int .i64 162]) (by simp [results, Tryd.results25, go_sem]) rfl ⟨rfl, ?_⟩
    repeat (refine Fr.set ?_ (.inr (by simp)) _)
    exact (Fr.refl _ _).alloc _
  | u :: r, hl =>
    rcases kind_cases u with h | ⟨k, k1, k8, h, _⟩
    · exact wReadO_none A n c u r h hl hn w hT hC
    · match k, k1, k8, h with
      | 1, _, _, h => exact wReadO1 A n c u r h hl hn hx w hT hV hC
      | 2, _, _, h => exact wReadO2 A n c u r h hl hn hx w hT hV hC
      | 3, _, _, h => exact wReadO3 A n c u r h hl hn hx w hT hV hC
      | 4, _, _, h => exact wReadO4 A n c u r h hl hn hx w hT hV hC
      | 5, _, _, h => exact wReadO5 A n c u r h hl hn hx w hT hV hC
      | 6, _, _, h => exact wReadO6 A n c u r h hl hn hx w hT hV hC
      | 7, _, _, h => exact wReadO7 A n c u r h hl hn hx w hT hV hC
      | 8, _, _, h => exact wReadO8 A n c u r h hl hn hx w hT hV hC
set_option maxHeartbeats 4000000 in
set_option maxRecDepth 100000 in
theorem rReadO_none (A : Option Addr) (n c : Nat) (u : List UInt8) (r : List (List UInt8)) (hk : kindK u = -1) (hl : (u :: r).length = n) (hn : n ≤ 8796093022000) (w : World) (hT : TR Any w A (u :: r)) :
    Calls Tryd.prog 27 #[.slice A n c] w (Ro w (readO (u :: r))) := by
  have HR := Lib.hid (reado_none (r := r) hk)
  have hn0 : 0 < n := by rw [← hl]; simp
  have hn0i : (0 : Int) < (n : Int) := by omega
  have hne : ((n : Int) == 0) = false := by rw [beq_eq_false_iff_ne]; omega
  obtain ⟨ad, hA, hc0⟩ := hT.at_ 0 (by simp)
  subst hA
  obtain ⟨p0, hp0⟩ : ∃ p0 : ByteArray, (⟨u.toArray⟩ : ByteArray) = p0 := ⟨_, rfl⟩
  have hc0 : w.cell? ad = some (.string p0) := by have h := hc0; rw [← hp0]; exact h
  have HKI := Lib.hid (fun g W hB => kindAt hp0 g W hB)
  rw [hk] at HKI
  obtain ⟨w1, hw1⟩ : ∃ w1, w.alloc ZO = w1 := ⟨_, rfl⟩
  have HF1 := Lib.hid (show Fr No w w1 by rw [← hw1]; exact (Fr.refl _ _).alloc _)
  have HZ1 := Lib.hid (show Bk w1 w.heap.size 44 [.int .i64 0, .string ⟨#[]⟩, .string ⟨#[]⟩, .int .i64 0, .int .i64 0] by rw [← hw1]; exact Bk.new w 44 [.int .i64 0, .string ⟨#[]⟩, .string ⟨#[]⟩, .int .i64 0, .int .i64 0])
  have ca0 := keepC HF1.out hc0 id
  have HW1 := Lib.hid (show w.alloc (.cells #[.int .i64 0, .string ⟨#[]⟩, .string ⟨#[]⟩, .int .i64 0, .int .i64 0] 44 (0, 0)) = w1 from hw1)
  clear hk hT hl hp0 hw1 hc0
  go_enter Tryd.func27, Tryd.ntmps27
  go_upto_region 3 with (fail)
  rw [HW1.out]
  go_region_law (first | (go_simp; go_at_call 40; refine (rKinds _).mono ?_; rintro e w3 ⟨g3, rfl, hB3, hF3⟩; have hF3 : Fr No w1 w3 := ((Fr.refl No _).drew).then_ hF3; have cb0 := keepC hF3 ca0 id) | (go_simp; go_at_call 37; refine (HKI.out g3 _ hB3).mono ?_; rintro e w4 ⟨rfl, hF4⟩))
  all_goals
    have HF4 := Lib.hid ((HF1.out.then_ hF3).then_ hF4)
    obtain ⟨z0, z1, z2, z3, z4, zf⟩ := Bk.five ((HZ1.out.fr hF3 id).fr hF4 id)
    clear hF3 hF4 hB3 cb0 ca0 HKI HW1 HZ1 HF1
    go_wp2
    refine bodyPost_ret (v := .tuple #[.agg #[.int .i64 0, .string ⟨#[]⟩, .string ⟨#[]⟩, .int .i64 0, .int .i64 0], .int .i64 0, .int .i64 163]) (by simp [results, Tryd.results27, go_sem, z0, z1, z2, z3, z4, zf]) rfl ⟨by rw [HR.out]; rfl, ?_⟩
    repeat (refine Fr.set ?_ (.inr (by simp)) _)
    exact HF4.out
set_option maxHeartbeats 4000000 in
set_option maxRecDepth 100000 in
theorem rReadO (A : Option Addr) (n c : Nat) (l : List (List UInt8)) (hl : l.length = n) (hn : n ≤ 8796093022000) (hx : ∀ x ∈ l, x.length ≤ 140737488351232) (w : World) (hT : TR Any w A l) :
    Calls Tryd.prog 27 #[.slice A n c] w (Ro w (readO l)) := by
  match l, hl with
  | [], hl =>
    obtain rfl : n = 0 := hl.symm
    go_enter Tryd.func27, Tryd.ntmps27
    go_wp2
    refine bodyPost_ret (v := .tuple #[.agg #[.int .i64 0, .string ⟨#[]⟩, .string ⟨#[]⟩, .int .i64 0, .int .i64 0], .int .i64 0, .int .i64 162]) (by simp [results, Tryd.results27, go_sem]) rfl ⟨rfl, ?_⟩
    repeat (refine Fr.set ?_ (.inr (by simp)) _)
    exact (Fr.refl _ _).alloc _
  | u :: r, hl =>
    rcases kind_cases u with h | ⟨k, k1, k8, h, _⟩
    · exact rReadO_none A n c u r h hl hn w hT
    · match k, k1, k8, h with
      | 1, _, _, h => exact rReadO1 A n c u r h hl hn hx w hT
      | 2, _, _, h => exact rReadO2 A n c u r h hl hn hx w hT
      | 3, _, _, h => exact rReadO3 A n c u r h hl hn hx w hT
      | 4, _, _, h => exact rReadO4 A n c u r h hl hn hx w hT
      | 5, _, _, h => exact rReadO5 A n c u r h hl hn hx w hT
      | 6, _, _, h => exact rReadO6 A n c u r h hl hn hx w hT
      | 7, _, _, h => exact rReadO7 A n c u r h hl hn hx w hT
      | 8, _, _, h => exact rReadO8 A n c u r h hl hn hx w hT
end Go.Proofs.YtdhlbdllidfenaaDoor.Wd
namespace Go.Proofs.YtdhlbdllidfenaaDoor.Wd
open Go.RowKit Go.Proofs.YtdhlbdllidfenaaDoor.Mem Go.Lib
set_option linter.unusedVariables false
set_option linter.unusedSimpArgs false
def pairsL : List (List UInt8 × List UInt8) := [([], []), ([109, 97, 107, 101], [110]), ([100, 114, 111, 112], [110]), ([112, 117, 115, 104], [110, 116]), ([116, 114, 105, 109], [110, 107]), ([116, 97, 107, 101], [110, 116]), ([114, 101, 97, 100], [110, 107, 109]), ([99, 111, 117, 110, 116], [110]), ([108, 105, 115, 116], [])]
theorem pairs_forms : ∀ i, i < 9 → ∀ a b, pairsL[i]? = some (a, b) → formsL[2 * i]? = some a ∧ formsL[2 * i + 1]? = some b
  | 0, _, a, b, h => by cases h; exact ⟨rfl, rfl⟩
  | 1, _, a, b, h => by cases h; exact ⟨rfl, rfl⟩
  | 2, _, a, b, h => by cases h; exact ⟨rfl, rfl⟩
  | 3, _, a, b, h => by cases h; exact ⟨rfl, rfl⟩
  | 4, _, a, b, h => by cases h; exact ⟨rfl, rfl⟩
  | 5, _, a, b, h => by cases h; exact ⟨rfl, rfl⟩
  | 6, _, a, b, h => by cases h; exact ⟨rfl, rfl⟩
  | 7, _, a, b, h => by cases h; exact ⟨rfl, rfl⟩
  | 8, _, a, b, h => by cases h; exact ⟨rfl, rfl⟩
set_option maxRecDepth 100000 in
theorem pair_of {H : Type} {enc : TypeId × Value → H} {w : World} {base : Nat} {sp : Nat → Bool} {held : Bool} {fuel : Nat} {cs : List Value} {a b : List UInt8} {p : List MemPlace} (h : DataW.trod enc Tryd.prog w base sp held fuel 65 cs = some (.agg [.lit (.string a), .lit (.string b)], p)) : cs = [sv a, sv b] := by
  obtain ⟨xs, m, _, hx, hlen, hxl, hF⟩ := DataW.trod_struct Tryd.underlying65 h
  rw [show Tryd.prog.cellsOf 65 = 2 by kernel_rfl] at hlen
  have e3 : Tryd.prog.cellsOf 9 = 1 := by kernel_rfl
  match cs, hlen with
  | [c0, c1], _ =>
    have h0 := hF 0 _ rfl
    have h1 := hF 1 _ rfl
    match xs, hxl with
    | [y0, y1], _ =>
      simp [e3] at h0 h1
      obtain ⟨s0, q0, r0, _⟩ := DataW.trod_string Tryd.underlying9 h0
      obtain ⟨s1, q1, r1, _⟩ := DataW.trod_string Tryd.underlying9 h1
      have hx1 := congrArg Prod.fst hx
      simp at hx1 q0 q1
      subst r0 r1
      simp at hx1
      obtain ⟨rfl, rfl⟩ := hx1
      rw [q0, q1]
      simp [sv]
set_option maxRecDepth 100000 in
theorem cells_of_pairs {H : Type} {enc : TypeId × Value → H} {w : World} {base : Nat} {sp : Nat → Bool} {held : Bool} {fuel : Nat} {cs : List Value} {p : List MemPlace}
    (h : DataW.trod enc Tryd.prog w base sp held fuel 66 cs = some (.agg (pairsL.map fun z => .agg [.lit (.string z.1), .lit (.string z.2)]), p)) : cs = formsL.map sv := by
  have hce : Tryd.prog.cellsOf 65 = 2 := by kernel_rfl
  have hct : Tryd.prog.cellsOf 66 = 18 := by kernel_rfl
  cases fuel with
  | zero => simp [DataW.trod] at h
  | succ fuel =>
    simp only [DataW.trod, Tryd.underlying66, hce, hct] at h
    split at h
    · rename_i hl
      obtain ⟨xs, hm, hx⟩ := Option.map_eq_some_iff.1 h
      have hxs : xs.map (·.1) = pairsL.map fun z => (DataW.agg [.lit (.string z.1), .lit (.string z.2)] : DataW H) := by
        have := congrArg Prod.fst hx
        simpa using this
      have key : ∀ i, i < 9 → ∃ a b, pairsL[i]? = some (a, b) ∧ cs[2 * i]? = some (sv a) ∧ cs[2 * i + 1]? = some (sv b) := fun i hi => by
        obtain ⟨y, hb, hf⟩ := mapM_at hm i i (by simp [hi])
        have h2 : (xs.map (·.1))[i]? = some y.1 := by simp [hb]
        rw [hxs, List.getElem?_map] at h2
        obtain ⟨⟨a, b⟩, hab, hy⟩ := Option.map_eq_some_iff.1 h2
        obtain ⟨y1, y2⟩ := y
        dsimp only at hy
        subst hy
        have hc := pair_of hf
        refine ⟨a, b, hab, ?_, ?_⟩
        · have := congrArg (·[0]?) hc
          simpa [List.getElem?_take, List.getElem?_drop, Nat.mul_comm] using this
        · have := congrArg (·[1]?) hc
          simpa [List.getElem?_take, List.getElem?_drop, Nat.mul_comm] using this
      apply List.ext_getElem?
      intro j
      by_cases hj : j < 18
      · obtain ⟨a, b, h1, h2, h3⟩ := key (j / 2) (by omega)
        obtain ⟨g1, g2⟩ := pairs_forms (j / 2) (by omega) a b h1
        rcases Nat.mod_two_eq_zero_or_one j with q | q
        · have e : 2 * (j / 2) = j := by omega
          rw [e] at h2 g1
          rw [h2, List.getElem?_map, g1]; rfl
        · have e : 2 * (j / 2) + 1 = j := by omega
          rw [e] at h3 g2
          rw [h3, List.getElem?_map, g2]; rfl
      · have hfl : formsL.length = 18 := rfl
        rw [List.getElem?_eq_none (by omega), List.getElem?_eq_none (by simp; omega)]
    · cases h
set_option maxRecDepth 100000 in
theorem cf_of {W : World} (h : laidMet Tryd.prog [("flotilla/words.forms", .agg (pairsL.map fun z => .agg [.lit (.string z.1), .lit (.string z.2)]))] W) : Cf W := by
  obtain ⟨ps, ⟨g', t', cs, fuel, p, q, hg', ht', hvar, hd, _, _⟩, _⟩ := h
  have hg : Tryd.prog.globalNamed "flotilla/words.forms" = some 1 := by kernel_rfl
  have hty : (Tryd.prog.globals[1]?).map (·.type) = some 66 := by kernel_rfl
  obtain rfl := Option.some.inj (hg.symm.trans hg')
  obtain rfl := Option.some.inj (hty.symm.trans ht')
  have hc := cells_of_pairs hd
  unfold World.var? at hvar
  rw [hg] at hvar
  simp only [Option.bind_some] at hvar
  split at hvar
  · rename_i cs' t fr hh
    simp only [Option.some.injEq] at hvar
    exact ⟨t, fr, by rw [hh, hvar, ← hc]⟩
  · cases hvar
end Go.Proofs.YtdhlbdllidfenaaDoor.Wd
namespace Go.Proofs.YtdhlbdllidfenaaDoor.Wd
open Go.RowKit Go.Proofs.YtdhlbdllidfenaaDoor.Mem
open Go.Proofs.YtdhlbdllidfenaaDoor.Nu (numL numE wNumber rNumber Vs num_dec num_is)
set_option linter.unusedVariables false
set_option linter.unusedSimpArgs false
theorem kinds_at {w : World} {g k : Nat} (h : Bk w g 9 (kindsL.map sv)) (hk : k < 9) : w.cell? ⟨g, k, none⟩ = some (sv (kindsL.getD k [])) := by
  rw [h.cell k]
  match k, hk with
  | 0, _ => rfl
  | 1, _ => rfl
  | 2, _ => rfl
  | 3, _ => rfl
  | 4, _ => rfl
  | 5, _ => rfl
  | 6, _ => rfl
  | 7, _ => rfl
  | 8, _ => rfl
set_option maxHeartbeats 4000000 in
set_option maxRecDepth 100000 in
theorem rCheck0 (o : OV) (hk : o.kind < 1 ∨ 8 < o.kind) (w : World) : Calls Tryd.prog 39 #[o.v] w fun e w' => e = .returned (.int .i64 (chkO o)) ∧ Fr No w w' := by
  have HR := Lib.hid (show chkO o = 50 by unfold chkO; rw [if_pos hk])
  obtain ⟨kind, name, text, num, most⟩ := o
  unfold OV.v sv at *
  dsimp only at *
  have HF := Lib.hid ((Fr.refl No w).alloc (.cells #[.int .i64 kind, .string ⟨name.toArray⟩, .string ⟨text.toArray⟩, .int .i64 num, .int .i64 most] 44 (0, 0)))
  by_cases h1 : kind < 1
  · have d1 : decide (kind < 1) = true := decide_eq_true h1
    clear hk h1
    go_enter Tryd.func39, Tryd.ntmps39
    go_wp2
    go_ret
    refine ⟨by rw [HR.out]; rfl, ?_⟩
    first | exact HF.out | exact HF.out.drew | exact HF.out.drewN _
  · have h2 : 8 < kind := by omega
    have d1 : decide (kind < 1) = false := decide_eq_false h1
    have d2 : decide (8 < kind) = true := decide_eq_true h2
    clear hk h1 h2
    go_enter Tryd.func39, Tryd.ntmps39
    go_wp2
    go_ret
    refine ⟨by rw [HR.out]; rfl, ?_⟩
    first | exact HF.out | exact HF.out.drew | exact HF.out.drewN _
theorem rCheck (o : OV) (w : World) : Calls Tryd.prog 39 #[o.v] w fun e w' => e = .returned (.int .i64 (chkO o)) ∧ Fr No w w' := by
  by_cases h : o.kind < 1 ∨ 8 < o.kind
  · exact rCheck0 o h w
  · obtain ⟨k, hk⟩ : ∃ k : Nat, o.kind = (k : Int) := ⟨o.kind.toNat, by omega⟩
    have h1 : 1 ≤ k := by omega
    have h8 : k ≤ 8 := by omega
    match k, h1, h8, hk with
    | 1, _, _, hk => exact rCheck1 o hk w
    | 2, _, _, hk => exact rCheck2 o hk w
    | 3, _, _, hk => exact rCheck3 o hk w
    | 4, _, _, hk => exact rCheck4 o hk w
    | 5, _, _, hk => exact rCheck5 o hk w
    | 6, _, _, hk => exact rCheck6 o hk w
    | 7, _, _, hk => exact rCheck7 o hk w
    | 8, _, _, hk => exact rCheck8 o hk w
set_option maxHeartbeats 4000000 in
set_option maxRecDepth 100000 in
theorem rOp_err (o : OV) (ho : chkO o ≠ 0) (w : World) : Calls Tryd.prog 24 #[o.v] w (Res w (opW o)) := by
  have HRW := Lib.hid (show opW o = ([], chkO o) by unfold opW; rw [if_pos ho])
  have HCK := Lib.hid (fun W => rCheck o W)
  obtain ⟨r, hr⟩ : ∃ r, chkO o = r := ⟨_, rfl⟩
  rw [hr] at HRW HCK ho
  obtain ⟨kind, name, text, num, most⟩ := o
  unfold OV.v at *
  dsimp only at *
  have e1 : (r != 0) = true := by rw [bne_iff_ne]; exact ho
  clear hr ho
  go_enter Tryd.func24, Tryd.ntmps24
  go_wp2_with fail
  refine (HCK.out _).mono ?_
  rintro e w1 ⟨rfl, hF1⟩
  have HF1 := Lib.hid (((Fr.refl No w).alloc _).then_ hF1)
  clear hF1
  go_wp2
  go_ret2
  refine ⟨none, 0, none, ?_, ?_⟩
  · rw [HRW.out]; rfl
  · rw [HRW.out]; exact TBuf.nil_ HF1.out
set_option maxHeartbeats 8000000 in
set_option maxRecDepth 100000 in
theorem rOp1 (o : OV) (hk : o.kind = 1) (ho : chkO o = 0) (w : World) : Calls Tryd.prog 24 #[o.v] w (Res w (opW o)) := by
  obtain ⟨k0, g1, g2, g3, g4, g5, g6, g7, g8, g9, hn0, hn1, hm0, hm1⟩ := chk_op ho
  clear g1 g2 g3 g4 g5 g6 g7 g8 g9 k0
  have HCK := Lib.hid (fun W => rCheck o W)
  rw [ho] at HCK
  obtain ⟨kind, name, text, num, most⟩ := o
  dsimp only at *
  subst hk
  obtain ⟨nn, rfl⟩ : ∃ nn : Nat, num = (nn : Int) := ⟨num.toNat, by omega⟩
  obtain ⟨mm, rfl⟩ : ∃ mm : Nat, most = (mm : Int) := ⟨most.toNat, by omega⟩
  have HRW := Lib.hid (show opW ⟨1, name, text, (nn : Int), (mm : Int)⟩ = ([[109, 97, 107, 101], name], 0) by
    unfold opW
    rw [if_neg (fun q => q ho)]
    simp [fieldsW, hasT, hasK, kindsL])
  unfold OV.v sv at *
  dsimp only at *
  obtain ⟨nb, hnb⟩ : ∃ p : ByteArray, (⟨name.toArray⟩ : ByteArray) = p := ⟨_, rfl⟩
  obtain ⟨tb, htb⟩ : ∃ p : ByteArray, (⟨text.toArray⟩ : ByteArray) = p := ⟨_, rfl⟩
  rw [hnb, htb] at HCK ⊢
  have HNB := Lib.hid hnb
  have HTB := Lib.hid htb
  have HBX := Lib.hid (Bk.new w 44 [.int .i64 1, .string nb, .string tb, .int .i64 (nn : Int), .int .i64 (mm : Int)])
  clear hnb htb ho
  go_enter Tryd.func24, Tryd.ntmps24
  go_wp2_with fail
  refine (HCK.out _).mono ?_
  rintro e w1 ⟨rfl, hF1⟩
  have HB1 := Lib.hid (Bk.fr (S := No) HBX.out hF1 id)
  have HF1 := Lib.hid (((Fr.refl No w).alloc _).then_ hF1)
  obtain ⟨y0, y1, y2, y3, y4, yf⟩ := Bk.five HB1.out
  clear hF1 HCK HBX
  go_wp2
  go_region_law (first | (go_simp; go_at_call 40; refine (rKinds _).mono ?_; rintro e w3 ⟨g3, rfl, hB3, hF3⟩; have hF3 : Fr No w1 w3 := ((Fr.refl No _).drew).then_ hF3; obtain ⟨p0, p1, p2, p3, p4, pf⟩ := Bk.five (HB1.out.fr hF3 id); have hcd : w3.cell? ⟨g3, 1, none⟩ = some (.string ⟨#[109, 97, 107, 101]⟩) := kinds_at hB3 (by omega)))
  all_goals
    have HX1 := Lib.hid (show Bk (w3.alloc (.cells #[.string ⟨#[109, 97, 107, 101]⟩] 9 (0, 0))) w.heap.size 44 [.int .i64 1, .string nb, .string tb, .int .i64 (nn : Int), .int .i64 (mm : Int)] from (HB1.out.fr hF3 id).alloc _)
    have HL1 := Lib.hid (show TBuf w (w3.alloc (.cells #[.string ⟨#[109, 97, 107, 101]⟩] 9 (0, 0))) (some w3.heap.size) (.slice (some ⟨w3.heap.size, 0, none⟩) 1 1) [[109, 97, 107, 101]] from ⟨lit_row (n := 1) (Bk.new w3 9 ([[109, 97, 107, 101]].map sv)) rfl (by omega), (HF1.out.then_ hF3).alloc _, fun q hq => by cases hq; exact (HF1.out.then_ hF3).size⟩)
    clear hF3 hB3 hcd p0 p1 p2 p3 p4 pf y0 y1 y2 y3 y4 yf HB1 HF1
    obtain ⟨y0, y1, y2, y3, y4, yf⟩ := Bk.five HX1.out
    go_upto_region 6 with (fail)
    generalize w3.alloc (.cells #[.string ⟨#[109, 97, 107, 101]⟩] 9 (0, 0)) = v1 at *
    generalize w3.heap.size = b1 at *
    go_upto_region 7 with (at_builtin; refine wl_append _ rfl (.tmp 20) (.tmp 23) 26 rfl 9 _ 1 16 Tryd.underlying26 infoStr rfl (by decide) (some b1) _ 1 ([[109, 97, 107, 101]].map sv) rfl (HL1.out.row rfl ((Fr.refl No _).alloc _)) (some ⟨v1.heap.size, 0, none⟩) 1 1 ([name].map sv) rfl rfl (fun _ => (newT1 v1 HNB.out).cells (by simp)) (sv_one _) (by unfold maxLen; omega) (by omega) ?_; intro A2 d2 v2 rb2 hrow hF hnb; have HL2 := Lib.hid (show TBuf w v2 rb2 (.slice A2 2 d2) ([[109, 97, 107, 101]] ++ [name]) from (HL1.out.quiet ((Fr.refl No v1).alloc _)).grow (n := 1) (m := 1) (k := [name]) hrow rfl rfl hF hnb); have HX2 := Lib.hid (Bk.fr (HX1.out.alloc _) hF (fun q => (Row.bt HL1.out.1 q).ne HX1.out.bt (by decide) rfl)); clear hrow hF hnb y0 y1 y2 y3 y4 yf; obtain ⟨y0, y1, y2, y3, y4, yf⟩ := Bk.five HX2.out)
    go_wp2
    go_ret2
    refine ⟨A2, d2, rb2, ?_, ?_⟩
    · rw [HRW.out]; rfl
    · rw [HRW.out]; exact HL2.out
set_option maxHeartbeats 8000000 in
set_option maxRecDepth 100000 in
theorem rOp2 (o : OV) (hk : o.kind = 2) (ho : chkO o = 0) (w : World) : Calls Tryd.prog 24 #[o.v] w (Res w (opW o)) := by
  obtain ⟨k0, g1, g2, g3, g4, g5, g6, g7, g8, g9, hn0, hn1, hm0, hm1⟩ := chk_op ho
  clear g1 g2 g3 g4 g5 g6 g7 g8 g9 k0
  have HCK := Lib.hid (fun W => rCheck o W)
  rw [ho] at HCK
  obtain ⟨kind, name, text, num, most⟩ := o
  dsimp only at *
  subst hk
  obtain ⟨nn, rfl⟩ : ∃ nn : Nat, num = (nn : Int) := ⟨num.toNat, by omega⟩
  obtain ⟨mm, rfl⟩ : ∃ mm : Nat, most = (mm : Int) := ⟨most.toNat, by omega⟩
  have HRW := Lib.hid (show opW ⟨2, name, text, (nn : Int), (mm : Int)⟩ = ([[100, 114, 111, 112], name], 0) by
    unfold opW
    rw [if_neg (fun q => q ho)]
    simp [fieldsW, hasT, hasK, kindsL])
  unfold OV.v sv at *
  dsimp only at *
  obtain ⟨nb, hnb⟩ : ∃ p : ByteArray, (⟨name.toArray⟩ : ByteArray) = p := ⟨_, rfl⟩
  obtain ⟨tb, htb⟩ : ∃ p : ByteArray, (⟨text.toArray⟩ : ByteArray) = p := ⟨_, rfl⟩
  rw [hnb, htb] at HCK ⊢
  have HNB := Lib.hid hnb
  have HTB := Lib.hid htb
  have HBX := Lib.hid (Bk.new w 44 [.int .i64 2, .string nb, .string tb, .int .i64 (nn : Int), .int .i64 (mm : Int)])
  clear hnb htb ho
  go_enter Tryd.func24, Tryd.ntmps24
  go_wp2_with fail
  refine (HCK.out _).mono ?_
  rintro e w1 ⟨rfl, hF1⟩
  have HB1 := Lib.hid (Bk.fr (S := No) HBX.out hF1 id)
  have HF1 := Lib.hid (((Fr.refl No w).alloc _).then_ hF1)
  obtain ⟨y0, y1, y2, y3, y4, yf⟩ := Bk.five HB1.out
  clear hF1 HCK HBX
  go_wp2
  go_region_law (first | (go_simp; go_at_call 40; refine (rKinds _).mono ?_; rintro e w3 ⟨g3, rfl, hB3, hF3⟩; have hF3 : Fr No w1 w3 := ((Fr.refl No _).drew).then_ hF3; obtain ⟨p0, p1, p2, p3, p4, pf⟩ := Bk.five (HB1.out.fr hF3 id); have hcd : w3.cell? ⟨g3, 2, none⟩ = some (.string ⟨#[100, 114, 111, 112]⟩) := kinds_at hB3 (by omega)))
  all_goals
    have HX1 := Lib.hid (show Bk (w3.alloc (.cells #[.string ⟨#[100, 114, 111, 112]⟩] 9 (0, 0))) w.heap.size 44 [.int .i64 2, .string nb, .string tb, .int .i64 (nn : Int), .int .i64 (mm : Int)] from (HB1.out.fr hF3 id).alloc _)
    have HL1 := Lib.hid (show TBuf w (w3.alloc (.cells #[.string ⟨#[100, 114, 111, 112]⟩] 9 (0, 0))) (some w3.heap.size) (.slice (some ⟨w3.heap.size, 0, none⟩) 1 1) [[100, 114, 111, 112]] from ⟨lit_row (n := 1) (Bk.new w3 9 ([[100, 114, 111, 112]].map sv)) rfl (by omega), (HF1.out.then_ hF3).alloc _, fun q hq => by cases hq; exact (HF1.out.then_ hF3).size⟩)
    clear hF3 hB3 hcd p0 p1 p2 p3 p4 pf y0 y1 y2 y3 y4 yf HB1 HF1
    obtain ⟨y0, y1, y2, y3, y4, yf⟩ := Bk.five HX1.out
    go_upto_region 6 with (fail)
    generalize w3.alloc (.cells #[.string ⟨#[100, 114, 111, 112]⟩] 9 (0, 0)) = v1 at *
    generalize w3.heap.size = b1 at *
    go_upto_region 7 with (at_builtin; refine wl_append _ rfl (.tmp 20) (.tmp 23) 26 rfl 9 _ 1 16 Tryd.underlying26 infoStr rfl (by decide) (some b1) _ 1 ([[100, 114, 111, 112]].map sv) rfl (HL1.out.row rfl ((Fr.refl No _).alloc _)) (some ⟨v1.heap.size, 0, none⟩) 1 1 ([name].map sv) rfl rfl (fun _ => (newT1 v1 HNB.out).cells (by simp)) (sv_one _) (by unfold maxLen; omega) (by omega) ?_; intro A2 d2 v2 rb2 hrow hF hnb; have HL2 := Lib.hid (show TBuf w v2 rb2 (.slice A2 2 d2) ([[100, 114, 111, 112]] ++ [name]) from (HL1.out.quiet ((Fr.refl No v1).alloc _)).grow (n := 1) (m := 1) (k := [name]) hrow rfl rfl hF hnb); have HX2 := Lib.hid (Bk.fr (HX1.out.alloc _) hF (fun q => (Row.bt HL1.out.1 q).ne HX1.out.bt (by decide) rfl)); clear hrow hF hnb y0 y1 y2 y3 y4 yf; obtain ⟨y0, y1, y2, y3, y4, yf⟩ := Bk.five HX2.out)
    go_wp2
    go_ret2
    refine ⟨A2, d2, rb2, ?_, ?_⟩
    · rw [HRW.out]; rfl
    · rw [HRW.out]; exact HL2.out
set_option maxHeartbeats 8000000 in
set_option maxRecDepth 100000 in
theorem rOp3 (o : OV) (hk : o.kind = 3) (ho : chkO o = 0) (w : World) : Calls Tryd.prog 24 #[o.v] w (Res w (opW o)) := by
  obtain ⟨k0, g1, g2, g3, g4, g5, g6, g7, g8, g9, hn0, hn1, hm0, hm1⟩ := chk_op ho
  clear g1 g2 g3 g4 g5 g6 g7 g8 g9 k0
  have HCK := Lib.hid (fun W => rCheck o W)
  rw [ho] at HCK
  obtain ⟨kind, name, text, num, most⟩ := o
  dsimp only at *
  subst hk
  obtain ⟨nn, rfl⟩ : ∃ nn : Nat, num = (nn : Int) := ⟨num.toNat, by omega⟩
  obtain ⟨mm, rfl⟩ : ∃ mm : Nat, most = (mm : Int) := ⟨most.toNat, by omega⟩
  have HRW := Lib.hid (show opW ⟨3, name, text, (nn : Int), (mm : Int)⟩ = ([[112, 117, 115, 104], name, text], 0) by
    unfold opW
    rw [if_neg (fun q => q ho)]
    simp [fieldsW, hasT, hasK, kindsL])
  unfold OV.v sv at *
  dsimp only at *
  obtain ⟨nb, hnb⟩ : ∃ p : ByteArray, (⟨name.toArray⟩ : ByteArray) = p := ⟨_, rfl⟩
  obtain ⟨tb, htb⟩ : ∃ p : ByteArray, (⟨text.toArray⟩ : ByteArray) = p := ⟨_, rfl⟩
  rw [hnb, htb] at HCK ⊢
  have HNB := Lib.hid hnb
  have HTB := Lib.hid htb
  have HBX := Lib.hid (Bk.new w 44 [.int .i64 3, .string nb, .string tb, .int .i64 (nn : Int), .int .i64 (mm : Int)])
  clear hnb htb ho
  go_enter Tryd.func24, Tryd.ntmps24
  go_wp2_with fail
  refine (HCK.out _).mono ?_
  rintro e w1 ⟨rfl, hF1⟩
  have HB1 := Lib.hid (Bk.fr (S := No) HBX.out hF1 id)
  have HF1 := Lib.hid (((Fr.refl No w).alloc _).then_ hF1)
  obtain ⟨y0, y1, y2, y3, y4, yf⟩ := Bk.five HB1.out
  clear hF1 HCK HBX
  go_wp2
  go_region_law (first | (go_simp; go_at_call 40; refine (rKinds _).mono ?_; rintro e w3 ⟨g3, rfl, hB3, hF3⟩; have hF3 : Fr No w1 w3 := ((Fr.refl No _).drew).then_ hF3; obtain ⟨p0, p1, p2, p3, p4, pf⟩ := Bk.five (HB1.out.fr hF3 id); have hcd : w3.cell? ⟨g3, 3, none⟩ = some (.string ⟨#[112, 117, 115, 104]⟩) := kinds_at hB3 (by omega)))
  all_goals
    have HX1 := Lib.hid (show Bk (w3.alloc (.cells #[.string ⟨#[112, 117, 115, 104]⟩] 9 (0, 0))) w.heap.size 44 [.int .i64 3, .string nb, .string tb, .int .i64 (nn : Int), .int .i64 (mm : Int)] from (HB1.out.fr hF3 id).alloc _)
    have HL1 := Lib.hid (show TBuf w (w3.alloc (.cells #[.string ⟨#[112, 117, 115, 104]⟩] 9 (0, 0))) (some w3.heap.size) (.slice (some ⟨w3.heap.size, 0, none⟩) 1 1) [[112, 117, 115, 104]] from ⟨lit_row (n := 1) (Bk.new w3 9 ([[112, 117, 115, 104]].map sv)) rfl (by omega), (HF1.out.then_ hF3).alloc _, fun q hq => by cases hq; exact (HF1.out.then_ hF3).size⟩)
    clear hF3 hB3 hcd p0 p1 p2 p3 p4 pf y0 y1 y2 y3 y4 yf HB1 HF1
    obtain ⟨y0, y1, y2, y3, y4, yf⟩ := Bk.five HX1.out
    go_upto_region 6 with (fail)
    generalize w3.alloc (.cells #[.string ⟨#[112, 117, 115, 104]⟩] 9 (0, 0)) = v1 at *
    generalize w3.heap.size = b1 at *
    go_upto_region 7 with (at_builtin; refine wl_append _ rfl (.tmp 20) (.tmp 23) 26 rfl 9 _ 1 16 Tryd.underlying26 infoStr rfl (by decide) (some b1) _ 1 ([[112, 117, 115, 104]].map sv) rfl (HL1.out.row rfl ((Fr.refl No _).alloc _)) (some ⟨v1.heap.size, 0, none⟩) 1 1 ([name].map sv) rfl rfl (fun _ => (newT1 v1 HNB.out).cells (by simp)) (sv_one _) (by unfold maxLen; omega) (by omega) ?_; intro A2 d2 v2 rb2 hrow hF hnb; have HL2 := Lib.hid (show TBuf w v2 rb2 (.slice A2 2 d2) ([[112, 117, 115, 104]] ++ [name]) from (HL1.out.quiet ((Fr.refl No v1).alloc _)).grow (n := 1) (m := 1) (k := [name]) hrow rfl rfl hF hnb); have HX2 := Lib.hid (Bk.fr (HX1.out.alloc _) hF (fun q => (Row.bt HL1.out.1 q).ne HX1.out.bt (by decide) rfl)); clear hrow hF hnb y0 y1 y2 y3 y4 yf; obtain ⟨y0, y1, y2, y3, y4, yf⟩ := Bk.five HX2.out)
    go_upto_region 9 with (at_builtin; refine wl_append _ rfl (.tmp 33) (.tmp 36) 26 rfl 9 _ 1 16 Tryd.underlying26 infoStr rfl (by decide) rb2 _ 2 ([[112, 117, 115, 104], name].map sv) rfl (HL2.out.row rfl ((Fr.refl No _).alloc _)) (some ⟨v2.heap.size, 0, none⟩) 1 1 ([text].map sv) rfl rfl (fun _ => (newT1 v2 HTB.out).cells (by simp)) (sv_one _) (by unfold maxLen; omega) (by omega) ?_; intro A3 d3 v3 rb3 hrow hF hnb; have HL3 := Lib.hid (show TBuf w v3 rb3 (.slice A3 3 d3) ([[112, 117, 115, 104], name] ++ [text]) from (HL2.out.quiet ((Fr.refl No v2).alloc _)).grow (n := 2) (m := 1) (k := [text]) hrow rfl rfl hF hnb); have HX3 := Lib.hid (Bk.fr (HX2.out.alloc _) hF (fun q => (Row.bt HL2.out.1 q).ne HX2.out.bt (by decide) rfl)); clear hrow hF hnb y0 y1 y2 y3 y4 yf; obtain ⟨y0, y1, y2, y3, y4, yf⟩ := Bk.five HX3.out)
    go_wp2
    go_ret2
    refine ⟨A3, d3, rb3, ?_, ?_⟩
    · rw [HRW.out]; rfl
    · rw [HRW.out]; exact HL3.out
set_option maxHeartbeats 8000000 in
set_option maxRecDepth 100000 in
theorem rOp4 (o : OV) (hk : o.kind = 4) (ho : chkO o = 0) (w : World) : Calls Tryd.prog 24 #[o.v] w (Res w (opW o)) := by
  obtain ⟨k0, g1, g2, g3, g4, g5, g6, g7, g8, g9, hn0, hn1, hm0, hm1⟩ := chk_op ho
  clear g1 g2 g3 g4 g5 g6 g7 g8 g9 k0
  have HCK := Lib.hid (fun W => rCheck o W)
  rw [ho] at HCK
  obtain ⟨kind, name, text, num, most⟩ := o
  dsimp only at *
  subst hk
  obtain ⟨nn, rfl⟩ : ∃ nn : Nat, num = (nn : Int) := ⟨num.toNat, by omega⟩
  obtain ⟨mm, rfl⟩ : ∃ mm : Nat, most = (mm : Int) := ⟨most.toNat, by omega⟩
  have HRW := Lib.hid (show opW ⟨4, name, text, (nn : Int), (mm : Int)⟩ = ([[116, 114, 105, 109], name, Lib.decDigits nn], 0) by
    unfold opW
    rw [if_neg (fun q => q ho)]
    simp [fieldsW, hasT, hasK, kindsL])
  unfold OV.v sv at *
  dsimp only at *
  obtain ⟨nb, hnb⟩ : ∃ p : ByteArray, (⟨name.toArray⟩ : ByteArray) = p := ⟨_, rfl⟩
  obtain ⟨tb, htb⟩ : ∃ p : ByteArray, (⟨text.toArray⟩ : ByteArray) = p := ⟨_, rfl⟩
  rw [hnb, htb] at HCK ⊢
  have HNB := Lib.hid hnb
  have HTB := Lib.hid htb
  have HBX := Lib.hid (Bk.new w 44 [.int .i64 4, .string nb, .string tb, .int .i64 (nn : Int), .int .i64 (mm : Int)])
  clear hnb htb ho
  go_enter Tryd.func24, Tryd.ntmps24
  go_wp2_with fail
  refine (HCK.out _).mono ?_
  rintro e w1 ⟨rfl, hF1⟩
  have HB1 := Lib.hid (Bk.fr (S := No) HBX.out hF1 id)
  have HF1 := Lib.hid (((Fr.refl No w).alloc _).then_ hF1)
  obtain ⟨y0, y1, y2, y3, y4, yf⟩ := Bk.five HB1.out
  clear hF1 HCK HBX
  go_wp2
  go_region_law (first | (go_simp; go_at_call 40; refine (rKinds _).mono ?_; rintro e w3 ⟨g3, rfl, hB3, hF3⟩; have hF3 : Fr No w1 w3 := ((Fr.refl No _).drew).then_ hF3; obtain ⟨p0, p1, p2, p3, p4, pf⟩ := Bk.five (HB1.out.fr hF3 id); have hcd : w3.cell? ⟨g3, 4, none⟩ = some (.string ⟨#[116, 114, 105, 109]⟩) := kinds_at hB3 (by omega)))
  all_goals
    have HX1 := Lib.hid (show Bk (w3.alloc (.cells #[.string ⟨#[116, 114, 105, 109]⟩] 9 (0, 0))) w.heap.size 44 [.int .i64 4, .string nb, .string tb, .int .i64 (nn : Int), .int .i64 (mm : Int)] from (HB1.out.fr hF3 id).alloc _)
    have HL1 := Lib.hid (show TBuf w (w3.alloc (.cells #[.string ⟨#[116, 114, 105, 109]⟩] 9 (0, 0))) (some w3.heap.size) (.slice (some ⟨w3.heap.size, 0, none⟩) 1 1) [[116, 114, 105, 109]] from ⟨lit_row (n := 1) (Bk.new w3 9 ([[116, 114, 105, 109]].map sv)) rfl (by omega), (HF1.out.then_ hF3).alloc _, fun q hq => by cases hq; exact (HF1.out.then_ hF3).size⟩)
    clear hF3 hB3 hcd p0 p1 p2 p3 p4 pf y0 y1 y2 y3 y4 yf HB1 HF1
    obtain ⟨y0, y1, y2, y3, y4, yf⟩ := Bk.five HX1.out
    go_upto_region 6 with (fail)
    generalize w3.alloc (.cells #[.string ⟨#[116, 114, 105, 109]⟩] 9 (0, 0)) = v1 at *
    generalize w3.heap.size = b1 at *
    go_upto_region 7 with (at_builtin; refine wl_append _ rfl (.tmp 20) (.tmp 23) 26 rfl 9 _ 1 16 Tryd.underlying26 infoStr rfl (by decide) (some b1) _ 1 ([[116, 114, 105, 109]].map sv) rfl (HL1.out.row rfl ((Fr.refl No _).alloc _)) (some ⟨v1.heap.size, 0, none⟩) 1 1 ([name].map sv) rfl rfl (fun _ => (newT1 v1 HNB.out).cells (by simp)) (sv_one _) (by unfold maxLen; omega) (by omega) ?_; intro A2 d2 v2 rb2 hrow hF hnb; have HL2 := Lib.hid (show TBuf w v2 rb2 (.slice A2 2 d2) ([[116, 114, 105, 109]] ++ [name]) from (HL1.out.quiet ((Fr.refl No v1).alloc _)).grow (n := 1) (m := 1) (k := [name]) hrow rfl rfl hF hnb); have HX2 := Lib.hid (Bk.fr (HX1.out.alloc _) hF (fun q => (Row.bt HL1.out.1 q).ne HX1.out.bt (by decide) rfl)); clear hrow hF hnb y0 y1 y2 y3 y4 yf; obtain ⟨y0, y1, y2, y3, y4, yf⟩ := Bk.five HX2.out)
    have HI2 := Lib.hid (Nu.wDigits nn (by omega) v2)
    obtain ⟨sb2, hsb2⟩ : ∃ p : ByteArray, (⟨(Lib.decDigits nn).toArray⟩ : ByteArray) = p := ⟨_, rfl⟩
    rw [hsb2] at HI2
    have HSB2 := Lib.hid hsb2
    clear hsb2
    go_wp2_with fail
    refine HI2.out.mono ?_
    rintro e u2 ⟨rfl, hFu⟩
    have HLu := Lib.hid (HL2.out.quiet hFu)
    have HXu := Lib.hid (HX2.out.fr hFu id)
    clear hFu y0 y1 y2 y3 y4 yf HI2
    obtain ⟨y0, y1, y2, y3, y4, yf⟩ := Bk.five HXu.out
    go_upto_region 11 with (at_builtin; refine wl_append _ rfl (.tmp 46) (.tmp 50) 26 rfl 9 _ 1 16 Tryd.underlying26 infoStr rfl (by decide) rb2 _ 2 ([[116, 114, 105, 109], name].map sv) rfl (HLu.out.row rfl ((Fr.refl No _).alloc _)) (some ⟨u2.heap.size, 0, none⟩) 1 1 ([Lib.decDigits nn].map sv) rfl rfl (fun _ => (newT1 u2 HSB2.out).cells (by simp)) (sv_one _) (by unfold maxLen; omega) (by omega) ?_; intro A3 d3 v3 rb3 hrow hF hnb; have HL3 := Lib.hid (show TBuf w v3 rb3 (.slice A3 3 d3) ([[116, 114, 105, 109], name] ++ [Lib.decDigits nn]) from (HLu.out.quiet ((Fr.refl No u2).alloc _)).grow (n := 2) (m := 1) (k := [Lib.decDigits nn]) hrow rfl rfl hF hnb); have HX3 := Lib.hid (Bk.fr (HXu.out.alloc _) hF (fun q => (Row.bt HLu.out.1 q).ne HXu.out.bt (by decide) rfl)); clear hrow hF hnb y0 y1 y2 y3 y4 yf; obtain ⟨y0, y1, y2, y3, y4, yf⟩ := Bk.five HX3.out)
    go_wp2
    go_ret2
    refine ⟨A3, d3, rb3, ?_, ?_⟩
    · rw [HRW.out]; rfl
    · rw [HRW.out]; exact HL3.out
set_option maxHeartbeats 8000000 in
set_option maxRecDepth 100000 in
theorem rOp5 (o : OV) (hk : o.kind = 5) (ho : chkO o = 0) (w : World) : Calls Tryd.prog 24 #[o.v] w (Res w (opW o)) := by
  obtain ⟨k0, g1, g2, g3, g4, g5, g6, g7, g8, g9, hn0, hn1, hm0, hm1⟩ := chk_op ho
  clear g1 g2 g3 g4 g5 g6 g7 g8 g9 k0
  have HCK := Lib.hid (fun W => rCheck o W)
  rw [ho] at HCK
  obtain ⟨kind, name, text, num, most⟩ := o
  dsimp only at *
  subst hk
  obtain ⟨nn, rfl⟩ : ∃ nn : Nat, num = (nn : Int) := ⟨num.toNat, by omega⟩
  obtain ⟨mm, rfl⟩ : ∃ mm : Nat, most = (mm : Int) := ⟨most.toNat, by omega⟩
  have HRW := Lib.hid (show opW ⟨5, name, text, (nn : Int), (mm : Int)⟩ = ([[116, 97, 107, 101], name, text], 0) by
    unfold opW
    rw [if_neg (fun q => q ho)]
    simp [fieldsW, hasT, hasK, kindsL])
  unfold OV.v sv at *
  dsimp only at *
  obtain ⟨nb, hnb⟩ : ∃ p : ByteArray, (⟨name.toArray⟩ : ByteArray) = p := ⟨_, rfl⟩
  obtain ⟨tb, htb⟩ : ∃ p : ByteArray, (⟨text.toArray⟩ : ByteArray) = p := ⟨_, rfl⟩
  rw [hnb, htb] at HCK ⊢
  have HNB := Lib.hid hnb
  have HTB := Lib.hid htb
  have HBX := Lib.hid (Bk.new w 44 [.int .i64 5, .string nb, .string tb, .int .i64 (nn : Int), .int .i64 (mm : Int)])
  clear hnb htb ho
  go_enter Tryd.func24, Tryd.ntmps24
  go_wp2_with fail
  refine (HCK.out _).mono ?_
  rintro e w1 ⟨rfl, hF1⟩
  have HB1 := Lib.hid (Bk.fr (S := No) HBX.out hF1 id)
  have HF1 := Lib.hid (((Fr.refl No w).alloc _).then_ hF1)
  obtain ⟨y0, y1, y2, y3, y4, yf⟩ := Bk.five HB1.out
  clear hF1 HCK HBX
  go_wp2
  go_region_law (first | (go_simp; go_at_call 40; refine (rKinds _).mono ?_; rintro e w3 ⟨g3, rfl, hB3, hF3⟩; have hF3 : Fr No w1 w3 := ((Fr.refl No _).drew).then_ hF3; obtain ⟨p0, p1, p2, p3, p4, pf⟩ := Bk.five (HB1.out.fr hF3 id); have hcd : w3.cell? ⟨g3, 5, none⟩ = some (.string ⟨#[116, 97, 107, 101]⟩) := kinds_at hB3 (by omega)))
  all_goals
    have HX1 := Lib.hid (show Bk (w3.alloc (.cells #[.string ⟨#[116, 97, 107, 101]⟩] 9 (0, 0))) w.heap.size 44 [.int .i64 5, .string nb, .string tb, .int .i64 (nn : Int), .int .i64 (mm : Int)] from (HB1.out.fr hF3 id).alloc _)
    have HL1 := Lib.hid (show TBuf w (w3.alloc (.cells #[.string ⟨#[116, 97, 107, 101]⟩] 9 (0, 0))) (some w3.heap.size) (.slice (some ⟨w3.heap.size, 0, none⟩) 1 1) [[116, 97, 107, 101]] from ⟨lit_row (n := 1) (Bk.new w3 9 ([[116, 97, 107, 101]].map sv)) rfl (by omega), (HF1.out.then_ hF3).alloc _, fun q hq => by cases hq; exact (HF1.out.then_ hF3).size⟩)
    clear hF3 hB3 hcd p0 p1 p2 p3 p4 pf y0 y1 y2 y3 y4 yf HB1 HF1
    obtain ⟨y0, y1, y2, y3, y4, yf⟩ := Bk.five HX1.out
    go_upto_region 6 with (fail)
    generalize w3.alloc (.cells #[.string ⟨#[116, 97, 107, 101]⟩] 9 (0, 0)) = v1 at *
    generalize w3.heap.size = b1 at *
    go_upto_region 7 with (at_builtin; refine wl_append _ rfl (.tmp 20) (.tmp 23) 26 rfl 9 _ 1 16 Tryd.underlying26 infoStr rfl (by decide) (some b1) _ 1 ([[116, 97, 107, 101]].map sv) rfl (HL1.out.row rfl ((Fr.refl No _).alloc _)) (some ⟨v1.heap.size, 0, none⟩) 1 1 ([name].map sv) rfl rfl (fun _ => (newT1 v1 HNB.out).cells (by simp)) (sv_one _) (by unfold maxLen; omega) (by omega) ?_; intro A2 d2 v2 rb2 hrow hF hnb; have HL2 := Lib.hid (show TBuf w v2 rb2 (.slice A2 2 d2) ([[116, 97, 107, 101]] ++ [name]) from (HL1.out.quiet ((Fr.refl No v1).alloc _)).grow (n := 1) (m := 1) (k := [name]) hrow rfl rfl hF hnb); have HX2 := Lib.hid (Bk.fr (HX1.out.alloc _) hF (fun q => (Row.bt HL1.out.1 q).ne HX1.out.bt (by decide) rfl)); clear hrow hF hnb y0 y1 y2 y3 y4 yf; obtain ⟨y0, y1, y2, y3, y4, yf⟩ := Bk.five HX2.out)
    go_upto_region 9 with (at_builtin; refine wl_append _ rfl (.tmp 33) (.tmp 36) 26 rfl 9 _ 1 16 Tryd.underlying26 infoStr rfl (by decide) rb2 _ 2 ([[116, 97, 107, 101], name].map sv) rfl (HL2.out.row rfl ((Fr.refl No _).alloc _)) (some ⟨v2.heap.size, 0, none⟩) 1 1 ([text].map sv) rfl rfl (fun _ => (newT1 v2 HTB.out).cells (by simp)) (sv_one _) (by unfold maxLen; omega) (by omega) ?_; intro A3 d3 v3 rb3 hrow hF hnb; have HL3 := Lib.hid (show TBuf w v3 rb3 (.slice A3 3 d3) ([[116, 97, 107, 101], name] ++ [text]) from (HL2.out.quiet ((Fr.refl No v2).alloc _)).grow (n := 2) (m := 1) (k := [text]) hrow rfl rfl hF hnb); have HX3 := Lib.hid (Bk.fr (HX2.out.alloc _) hF (fun q => (Row.bt HL2.out.1 q).ne HX2.out.bt (by decide) rfl)); clear hrow hF hnb y0 y1 y2 y3 y4 yf; obtain ⟨y0, y1, y2, y3, y4, yf⟩ := Bk.five HX3.out)
    go_wp2
    go_ret2
    refine ⟨A3, d3, rb3, ?_, ?_⟩
    · rw [HRW.out]; rfl
    · rw [HRW.out]; exact HL3.out
set_option maxHeartbeats 8000000 in
set_option maxRecDepth 100000 in
theorem rOp6 (o : OV) (hk : o.kind = 6) (ho : chkO o = 0) (w : World) : Calls Tryd.prog 24 #[o.v] w (Res w (opW o)) := by
  obtain ⟨k0, g1, g2, g3, g4, g5, g6, g7, g8, g9, hn0, hn1, hm0, hm1⟩ := chk_op ho
  clear g1 g2 g3 g4 g5 g6 g7 g8 g9 k0
  have HCK := Lib.hid (fun W => rCheck o W)
  rw [ho] at HCK
  obtain ⟨kind, name, text, num, most⟩ := o
  dsimp only at *
  subst hk
  obtain ⟨nn, rfl⟩ : ∃ nn : Nat, num = (nn : Int) := ⟨num.toNat, by omega⟩
  obtain ⟨mm, rfl⟩ : ∃ mm : Nat, most = (mm : Int) := ⟨most.toNat, by omega⟩
  have HRW := Lib.hid (show opW ⟨6, name, text, (nn : Int), (mm : Int)⟩ = ([[114, 101, 97, 100], name, Lib.decDigits nn, Lib.decDigits mm], 0) by
    unfold opW
    rw [if_neg (fun q => q ho)]
    simp [fieldsW, hasT, hasK, kindsL])
  unfold OV.v sv at *
  dsimp only at *
  obtain ⟨nb, hnb⟩ : ∃ p : ByteArray, (⟨name.toArray⟩ : ByteArray) = p := ⟨_, rfl⟩
  obtain ⟨tb, htb⟩ : ∃ p : ByteArray, (⟨text.toArray⟩ : ByteArray) = p := ⟨_, rfl⟩
  rw [hnb, htb] at HCK ⊢
  have HNB := Lib.hid hnb
  have HTB := Lib.hid htb
  have HBX := Lib.hid (Bk.new w 44 [.int .i64 6, .string nb, .string tb, .int .i64 (nn : Int), .int .i64 (mm : Int)])
  clear hnb htb ho
  go_enter Tryd.func24, Tryd.ntmps24
  go_wp2_with fail
  refine (HCK.out _).mono ?_
  rintro e w1 ⟨rfl, hF1⟩
  have HB1 := Lib.hid (Bk.fr (S := No) HBX.out hF1 id)
  have HF1 := Lib.hid (((Fr.refl No w).alloc _).then_ hF1)
  obtain ⟨y0, y1, y2, y3, y4, yf⟩ := Bk.five HB1.out
  clear hF1 HCK HBX
  go_wp2
  go_region_law (first | (go_simp; go_at_call 40; refine (rKinds _).mono ?_; rintro e w3 ⟨g3, rfl, hB3, hF3⟩; have hF3 : Fr No w1 w3 := ((Fr.refl No _).drew).then_ hF3; obtain ⟨p0, p1, p2, p3, p4, pf⟩ := Bk.five (HB1.out.fr hF3 id); have hcd : w3.cell? ⟨g3, 6, none⟩ = some (.string ⟨#[114, 101, 97, 100]⟩) := kinds_at hB3 (by omega)))
  all_goals
    have HX1 := Lib.hid (show Bk (w3.alloc (.cells #[.string ⟨#[114, 101, 97, 100]⟩] 9 (0, 0))) w.heap.size 44 [.int .i64 6, .string nb, .string tb, .int .i64 (nn : Int), .int .i64 (mm : Int)] from (HB1.out.fr hF3 id).alloc _)
    have HL1 := Lib.hid (show TBuf w (w3.alloc (.cells #[.string ⟨#[114, 101, 97, 100]⟩] 9 (0, 0))) (some w3.heap.size) (.slice (some ⟨w3.heap.size, 0, none⟩) 1 1) [[114, 101, 97, 100]] from ⟨lit_row (n := 1) (Bk.new w3 9 ([[114, 101, 97, 100]].map sv)) rfl (by omega), (HF1.out.then_ hF3).alloc _, fun q hq => by cases hq; exact (HF1.out.then_ hF3).size⟩)
    clear hF3 hB3 hcd p0 p1 p2 p3 p4 pf y0 y1 y2 y3 y4 yf HB1 HF1
    obtain ⟨y0, y1, y2, y3, y4, yf⟩ := Bk.five HX1.out
    go_upto_region 6 with (fail)
    generalize w3.alloc (.cells #[.string ⟨#[114, 101, 97, 100]⟩] 9 (0, 0)) = v1 at *
    generalize w3.heap.size = b1 at *
    go_upto_region 7 with (at_builtin; refine wl_append _ rfl (.tmp 20) (.tmp 23) 26 rfl 9 _ 1 16 Tryd.underlying26 infoStr rfl (by decide) (some b1) _ 1 ([[114, 101, 97, 100]].map sv) rfl (HL1.out.row rfl ((Fr.refl No _).alloc _)) (some ⟨v1.heap.size, 0, none⟩) 1 1 ([name].map sv) rfl rfl (fun _ => (newT1 v1 HNB.out).cells (by simp)) (sv_one _) (by unfold maxLen; omega) (by omega) ?_; intro A2 d2 v2 rb2 hrow hF hnb; have HL2 := Lib.hid (show TBuf w v2 rb2 (.slice A2 2 d2) ([[114, 101, 97, 100]] ++ [name]) from (HL1.out.quiet ((Fr.refl No v1).alloc _)).grow (n := 1) (m := 1) (k := [name]) hrow rfl rfl hF hnb); have HX2 := Lib.hid (Bk.fr (HX1.out.alloc _) hF (fun q => (Row.bt HL1.out.1 q).ne HX1.out.bt (by decide) rfl)); clear hrow hF hnb y0 y1 y2 y3 y4 yf; obtain ⟨y0, y1, y2, y3, y4, yf⟩ := Bk.five HX2.out)
    have HI2 := Lib.hid (Nu.wDigits nn (by omega) v2)
    obtain ⟨sb2, hsb2⟩ : ∃ p : ByteArray, (⟨(Lib.decDigits nn).toArray⟩ : ByteArray) = p := ⟨_, rfl⟩
    rw [hsb2] at HI2
    have HSB2 := Lib.hid hsb2
    clear hsb2
    go_wp2_with fail
    refine HI2.out.mono ?_
    rintro e u2 ⟨rfl, hFu⟩
    have HLu := Lib.hid (HL2.out.quiet hFu)
    have HXu := Lib.hid (HX2.out.fr hFu id)
    clear hFu y0 y1 y2 y3 y4 yf HI2
    obtain ⟨y0, y1, y2, y3, y4, yf⟩ := Bk.five HXu.out
    go_upto_region 11 with (at_builtin; refine wl_append _ rfl (.tmp 46) (.tmp 50) 26 rfl 9 _ 1 16 Tryd.underlying26 infoStr rfl (by decide) rb2 _ 2 ([[114, 101, 97, 100], name].map sv) rfl (HLu.out.row rfl ((Fr.refl No _).alloc _)) (some ⟨u2.heap.size, 0, none⟩) 1 1 ([Lib.decDigits nn].map sv) rfl rfl (fun _ => (newT1 u2 HSB2.out).cells (by simp)) (sv_one _) (by unfold maxLen; omega) (by omega) ?_; intro A3 d3 v3 rb3 hrow hF hnb; have HL3 := Lib.hid (show TBuf w v3 rb3 (.slice A3 3 d3) ([[114, 101, 97, 100], name] ++ [Lib.decDigits nn]) from (HLu.out.quiet ((Fr.refl No u2).alloc _)).grow (n := 2) (m := 1) (k := [Lib.decDigits nn]) hrow rfl rfl hF hnb); have HX3 := Lib.hid (Bk.fr (HXu.out.alloc _) hF (fun q => (Row.bt HLu.out.1 q).ne HXu.out.bt (by decide) rfl)); clear hrow hF hnb y0 y1 y2 y3 y4 yf; obtain ⟨y0, y1, y2, y3, y4, yf⟩ := Bk.five HX3.out)
    have HI3 := Lib.hid (Nu.wDigits mm (by omega) v3)
    obtain ⟨sb3, hsb3⟩ : ∃ p : ByteArray, (⟨(Lib.decDigits mm).toArray⟩ : ByteArray) = p := ⟨_, rfl⟩
    rw [hsb3] at HI3
    have HSB3 := Lib.hid hsb3
    clear hsb3
    go_wp2_with fail
    refine HI3.out.mono ?_
    rintro e u3 ⟨rfl, hFu⟩
    have HLu := Lib.hid (HL3.out.quiet hFu)
    have HXu := Lib.hid (HX3.out.fr hFu id)
    clear hFu y0 y1 y2 y3 y4 yf HI3
    obtain ⟨y0, y1, y2, y3, y4, yf⟩ := Bk.five HXu.out
    go_wp2_with (at_builtin; refine wl_append _ rfl (.tmp 55) (.tmp 59) 26 rfl 9 _ 1 16 Tryd.underlying26 infoStr rfl (by decide) rb3 _ 3 ([[114, 101, 97, 100], name, Lib.decDigits nn].map sv) rfl (HLu.out.row rfl ((Fr.refl No _).alloc _)) (some ⟨u3.heap.size, 0, none⟩) 1 1 ([Lib.decDigits mm].map sv) rfl rfl (fun _ => (newT1 u3 HSB3.out).cells (by simp)) (sv_one _) (by unfold maxLen; omega) (by omega) ?_; intro A4 d4 v4 rb4 hrow hF hnb; have HL4 := Lib.hid (show TBuf w v4 rb4 (.slice A4 4 d4) ([[114, 101, 97, 100], name, Lib.decDigits nn] ++ [Lib.decDigits mm]) from (HLu.out.quiet ((Fr.refl No u3).alloc _)).grow (n := 3) (m := 1) (k := [Lib.decDigits mm]) hrow rfl rfl hF hnb); have HX4 := Lib.hid (Bk.fr (HXu.out.alloc _) hF (fun q => (Row.bt HLu.out.1 q).ne HXu.out.bt (by decide) rfl)); clear hrow hF hnb y0 y1 y2 y3 y4 yf; obtain ⟨y0, y1, y2, y3, y4, yf⟩ := Bk.five HX4.out)
    go_ret2
    refine ⟨A4, d4, rb4, ?_, ?_⟩
    · rw [HRW.out]; rfl
    · rw [HRW.out]; exact HL4.out
set_option maxHeartbeats 8000000 in
set_option maxRecDepth 100000 in
theorem rOp7 (o : OV) (hk : o.kind = 7) (ho : chkO o = 0) (w : World) : Calls Tryd.prog 24 #[o.v] w (Res w (opW o)) := by
  obtain ⟨k0, g1, g2, g3, g4, g5, g6, g7, g8, g9, hn0, hn1, hm0, hm1⟩ := chk_op ho
  clear g1 g2 g3 g4 g5 g6 g7 g8 g9 k0
  have HCK := Lib.hid (fun W => rCheck o W)
  rw [ho] at HCK
  obtain ⟨kind, name, text, num, most⟩ := o
  dsimp only at *
  subst hk
  obtain ⟨nn, rfl⟩ : ∃ nn : Nat, num = (nn : Int) := ⟨num.toNat, by omega⟩
  obtain ⟨mm, rfl⟩ : ∃ mm : Nat, most = (mm : Int) := ⟨most.toNat, by omega⟩
  have HRW := Lib.hid (show opW ⟨7, name, text, (nn : Int), (mm : Int)⟩ = ([[99, 111, 117, 110, 116], name], 0) by
    unfold opW
    rw [if_neg (fun q => q ho)]
    simp [fieldsW, hasT, hasK, kindsL])
  unfold OV.v sv at *
  dsimp only at *
  obtain ⟨nb, hnb⟩ : ∃ p : ByteArray, (⟨name.toArray⟩ : ByteArray) = p := ⟨_, rfl⟩
  obtain ⟨tb, htb⟩ : ∃ p : ByteArray, (⟨text.toArray⟩ : ByteArray) = p := ⟨_, rfl⟩
  rw [hnb, htb] at HCK ⊢
  have HNB := Lib.hid hnb
  have HTB := Lib.hid htb
  have HBX := Lib.hid (Bk.new w 44 [.int .i64 7, .string nb, .string tb, .int .i64 (nn : Int), .int .i64 (mm : Int)])
  clear hnb htb ho
  go_enter Tryd.func24, Tryd.ntmps24
  go_wp2_with fail
  refine (HCK.out _).mono ?_
  rintro e w1 ⟨rfl, hF1⟩
  have HB1 := Lib.hid (Bk.fr (S := No) HBX.out hF1 id)
  have HF1 := Lib.hid (((Fr.refl No w).alloc _).then_ hF1)
  obtain ⟨y0, y1, y2, y3, y4, yf⟩ := Bk.five HB1.out
  clear hF1 HCK HBX
  go_wp2
  go_region_law (first | (go_simp; go_at_call 40; refine (rKinds _).mono ?_; rintro e w3 ⟨g3, rfl, hB3, hF3⟩; have hF3 : Fr No w1 w3 := ((Fr.refl No _).drew).then_ hF3; obtain ⟨p0, p1, p2, p3, p4, pf⟩ := Bk.five (HB1.out.fr hF3 id); have hcd : w3.cell? ⟨g3, 7, none⟩ = some (.string ⟨#[99, 111, 117, 110, 116]⟩) := kinds_at hB3 (by omega)))
  all_goals
    have HX1 := Lib.hid (show Bk (w3.alloc (.cells #[.string ⟨#[99, 111, 117, 110, 116]⟩] 9 (0, 0))) w.heap.size 44 [.int .i64 7, .string nb, .string tb, .int .i64 (nn : Int), .int .i64 (mm : Int)] from (HB1.out.fr hF3 id).alloc _)
    have HL1 := Lib.hid (show TBuf w (w3.alloc (.cells #[.string ⟨#[99, 111, 117, 110, 116]⟩] 9 (0, 0))) (some w3.heap.size) (.slice (some ⟨w3.heap.size, 0, none⟩) 1 1) [[99, 111, 117, 110, 116]] from ⟨lit_row (n := 1) (Bk.new w3 9 ([[99, 111, 117, 110, 116]].map sv)) rfl (by omega), (HF1.out.then_ hF3).alloc _, fun q hq => by cases hq; exact (HF1.out.then_ hF3).size⟩)
    clear hF3 hB3 hcd p0 p1 p2 p3 p4 pf y0 y1 y2 y3 y4 yf HB1 HF1
    obtain ⟨y0, y1, y2, y3, y4, yf⟩ := Bk.five HX1.out
    go_upto_region 6 with (fail)
    generalize w3.alloc (.cells #[.string ⟨#[99, 111, 117, 110, 116]⟩] 9 (0, 0)) = v1 at *
    generalize w3.heap.size = b1 at *
    go_upto_region 7 with (at_builtin; refine wl_append _ rfl (.tmp 20) (.tmp 23) 26 rfl 9 _ 1 16 Tryd.underlying26 infoStr rfl (by decide) (some b1) _ 1 ([[99, 111, 117, 110, 116]].map sv) rfl (HL1.out.row rfl ((Fr.refl No _).alloc _)) (some ⟨v1.heap.size, 0, none⟩) 1 1 ([name].map sv) rfl rfl (fun _ => (newT1 v1 HNB.out).cells (by simp)) (sv_one _) (by unfold maxLen; omega) (by omega) ?_; intro A2 d2 v2 rb2 hrow hF hnb; have HL2 := Lib.hid (show TBuf w v2 rb2 (.slice A2 2 d2) ([[99, 111, 117, 110, 116]] ++ [name]) from (HL1.out.quiet ((Fr.refl No v1).alloc _)).grow (n := 1) (m := 1) (k := [name]) hrow rfl rfl hF hnb); have HX2 := Lib.hid (Bk.fr (HX1.out.alloc _) hF (fun q => (Row.bt HL1.out.1 q).ne HX1.out.bt (by decide) rfl)); clear hrow hF hnb y0 y1 y2 y3 y4 yf; obtain ⟨y0, y1, y2, y3, y4, yf⟩ := Bk.five HX2.out)
    go_wp2
    go_ret2
    refine ⟨A2, d2, rb2, ?_, ?_⟩
    · rw [HRW.out]; rfl
    · rw [HRW.out]; exact HL2.out
set_option maxHeartbeats 8000000 in
set_option maxRecDepth 100000 in
theorem rOp8 (o : OV) (hk : o.kind = 8) (ho : chkO o = 0) (w : World) : Calls Tryd.prog 24 #[o.v] w (Res w (opW o)) := by
  obtain ⟨k0, g1, g2, g3, g4, g5, g6, g7, g8, g9, hn0, hn1, hm0, hm1⟩ := chk_op ho
  clear g1 g2 g3 g4 g5 g6 g7 g8 g9 k0
  have HCK := Lib.hid (fun W => rCheck o W)
  rw [ho] at HCK
  obtain ⟨kind, name, text, num, most⟩ := o
  dsimp only at *
  subst hk
  obtain ⟨nn, rfl⟩ : ∃ nn : Nat, num = (nn : Int) := ⟨num.toNat, by omega⟩
  obtain ⟨mm, rfl⟩ : ∃ mm : Nat, most = (mm : Int) := ⟨most.toNat, by omega⟩
  have HRW := Lib.hid (show opW ⟨8, name, text, (nn : Int), (mm : Int)⟩ = ([[108, 105, 115, 116]], 0) by
    unfold opW
    rw [if_neg (fun q => q ho)]
    simp [fieldsW, hasT, hasK, kindsL])
  unfold OV.v sv at *
  dsimp only at *
  obtain ⟨nb, hnb⟩ : ∃ p : ByteArray, (⟨name.toArray⟩ : ByteArray) = p := ⟨_, rfl⟩
  obtain ⟨tb, htb⟩ : ∃ p : ByteArray, (⟨text.toArray⟩ : ByteArray) = p := ⟨_, rfl⟩
  rw [hnb, htb] at HCK ⊢
  have HNB := Lib.hid hnb
  have HTB := Lib.hid htb
  have HBX := Lib.hid (Bk.new w 44 [.int .i64 8, .string nb, .string tb, .int .i64 (nn : Int), .int .i64 (mm : Int)])
  clear hnb htb ho
  go_enter Tryd.func24, Tryd.ntmps24
  go_wp2_with fail
  refine (HCK.out _).mono ?_
  rintro e w1 ⟨rfl, hF1⟩
  have HB1 := Lib.hid (Bk.fr (S := No) HBX.out hF1 id)
  have HF1 := Lib.hid (((Fr.refl No w).alloc _).then_ hF1)
  obtain ⟨y0, y1, y2, y3, y4, yf⟩ := Bk.five HB1.out
  clear hF1 HCK HBX
  go_wp2
  go_region_law (first | (go_simp; go_at_call 40; refine (rKinds _).mono ?_; rintro e w3 ⟨g3, rfl, hB3, hF3⟩; have hF3 : Fr No w1 w3 := ((Fr.refl No _).drew).then_ hF3; obtain ⟨p0, p1, p2, p3, p4, pf⟩ := Bk.five (HB1.out.fr hF3 id); have hcd : w3.cell? ⟨g3, 8, none⟩ = some (.string ⟨#[108, 105, 115, 116]⟩) := kinds_at hB3 (by omega)))
  all_goals
    have HX1 := Lib.hid (show Bk (w3.alloc (.cells #[.string ⟨#[108, 105, 115, 116]⟩] 9 (0, 0))) w.heap.size 44 [.int .i64 8, .string nb, .string tb, .int .i64 (nn : Int), .int .i64 (mm : Int)] from (HB1.out.fr hF3 id).alloc _)
    have HL1 := Lib.hid (show TBuf w (w3.alloc (.cells #[.string ⟨#[108, 105, 115, 116]⟩] 9 (0, 0))) (some w3.heap.size) (.slice (some ⟨w3.heap.size, 0, none⟩) 1 1) [[108, 105, 115, 116]] from ⟨lit_row (n := 1) (Bk.new w3 9 ([[108, 105, 115, 116]].map sv)) rfl (by omega), (HF1.out.then_ hF3).alloc _, fun q hq => by cases hq; exact (HF1.out.then_ hF3).size⟩)
    clear hF3 hB3 hcd p0 p1 p2 p3 p4 pf y0 y1 y2 y3 y4 yf HB1 HF1
    obtain ⟨y0, y1, y2, y3, y4, yf⟩ := Bk.five HX1.out
    go_wp2
    go_ret2
    refine ⟨some ⟨w3.heap.size, 0, none⟩, 1, some w3.heap.size, ?_, ?_⟩
    · rw [HRW.out]; rfl
    · rw [HRW.out]; exact HL1.out
theorem rOp (o : OV) (w : World) : Calls Tryd.prog 24 #[o.v] w (Res w (opW o)) := by
  by_cases ho : chkO o = 0
  · obtain ⟨k, h1, h8, hk, _⟩ := chk_op ho
    match k, h1, h8, hk with
    | 1, _, _, hk => exact rOp1 o hk ho w
    | 2, _, _, hk => exact rOp2 o hk ho w
    | 3, _, _, hk => exact rOp3 o hk ho w
    | 4, _, _, hk => exact rOp4 o hk ho w
    | 5, _, _, hk => exact rOp5 o hk ho w
    | 6, _, _, hk => exact rOp6 o hk ho w
    | 7, _, _, hk => exact rOp7 o hk ho w
    | 8, _, _, hk => exact rOp8 o hk ho w
  · exact rOp_err o ho w
end Go.Proofs.YtdhlbdllidfenaaDoor.Wd
namespace Go.Proofs.YtdhlbdllidfenaaDoor.Wd
open Go.RowKit Go.Proofs.YtdhlbdllidfenaaDoor.Mem
open Go.Proofs.YtdhlbdllidfenaaDoor.Nu (numL numE wNumber rNumber Vs num_dec num_is)
set_option linter.unusedVariables false
set_option linter.unusedSimpArgs false
set_option maxHeartbeats 4000000 in
set_option maxRecDepth 100000 in
theorem bop (B : Nat → Prop) (w : World) (hb : Nat) (ro rw : Option Nat) (m : Nat) (oo wo of wf : List TL) (h : Bok B w hb ro rw m oo wo of wf) (hB : ∀ k, w.heap.size ≤ k → B k) (hs : Small oo of)
    (o : OV) (hV : Vs w) (hC : Cf w) :
    Calls Tryd.prog 23 #[.pointer (some ⟨hb, 0, none⟩), o.v] w fun e w' => e = .returned (.bool true) ∧ ∃ ro' rw' y z, Bok B w' hb ro' rw' m oo wo (of ++ [y]) (wf ++ [z]) ∧ y.d.length ≤ 11 ∧ Fr B w w' := by
  have H := Lib.hid h
  have HS := Lib.hid hs
  have HW := Lib.hid (fun W (hW : Fr No w W) => wOp o W (Nu.Vs.fr hV hW) (hC.fr hW))
  have HR := Lib.hid (fun W => rOp o W)
  have hcount := op_len o
  obtain ⟨R, hR⟩ : ∃ R, opW o = R := ⟨_, rfl⟩
  rw [hR] at HW HR hcount
  obtain ⟨ws, er⟩ := R
  obtain ⟨kind, name, text, num, most⟩ := o
  unfold OV.v sv at HW HR ⊢
  unfold Res at HW HR
  dsimp only at *
  obtain ⟨nb, hnb⟩ : ∃ p : ByteArray, (⟨name.toArray⟩ : ByteArray) = p := ⟨_, rfl⟩
  obtain ⟨tb, htb⟩ : ∃ p : ByteArray, (⟨text.toArray⟩ : ByteArray) = p := ⟨_, rfl⟩
  rw [hnb, htb] at HW HR ⊢
  obtain ⟨L, hLL⟩ : ∃ L, ws.length = L := ⟨_, rfl⟩
  rw [hLL] at HW HR hcount
  have HLL := Lib.hid hLL
  obtain ⟨w1, hw1⟩ : ∃ w1, w.alloc (.cells #[.int .i64 kind, .string nb, .string tb, .int .i64 num, .int .i64 most] 44 (0, 0)) = w1 := ⟨_, rfl⟩
  have hF1 : Fr No w w1 := by rw [← hw1]; exact (Fr.refl _ _).alloc _
  have HXA := Lib.hid (show Bk w1 w.heap.size 44 [.int .i64 kind, .string nb, .string tb, .int .i64 num, .int .i64 most] by rw [← hw1]; exact Bk.new w 44 [.int .i64 kind, .string nb, .string tb, .int .i64 num, .int .i64 most])
  have HF1 := Lib.hid hF1
  have HW1 := Lib.hid hw1
  obtain ⟨x0, x1, x2, x3, x4, xf⟩ := Bk.five HXA.out
  clear hR h hs hV hC hLL hF1 hw1 hnb htb
  go_enter Tryd.func23, Tryd.ntmps23
  go_upto_region 1 with (fail)
  rw [HW1.out]
  go_wp2_with fail
  refine (HW.out w1 HF1.out).mono ?_
  rintro ee w2 ⟨A1, c1, rb1, rfl, hT1⟩
  have HT1 := Lib.hid hT1
  have HF2 := Lib.hid (HF1.out.then_ hT1.2.1)
  have HXA2 := Lib.hid (HXA.out.fr hT1.2.1 id)
  clear hT1 x0 x1 x2 x3 x4 xf HXA HW
  obtain ⟨x0, x1, x2, x3, x4, xf⟩ := Bk.five HXA2.out
  go_wp2_with fail
  refine (HR.out w2).mono ?_
  rintro ee w3 ⟨A2, c2, rb2, rfl, hT2⟩
  have HT2 := Lib.hid hT2
  have HF3 := Lib.hid (HF2.out.then_ hT2.2.1)
  have HT13 := Lib.hid (HT1.out.quiet hT2.2.1)
  clear hT2 x0 x1 x2 x3 x4 xf HXA2 HR HT1
  have HLT := Lib.hid (show LT w3 ⟨A1, c1, rb1, ws⟩ by
    show Row w3 9 1 rb1 (.slice A1 ws.length c1) ws.length (ws.map sv)
    have h := HT13.out.1
    rw [HLL.out] at h ⊢
    exact h)
  have hsz := HF3.out.size
  have hsz1 := HF1.out.size
  have HK := Lib.hid (bkeep B w3 hb ro rw m oo wo of wf (H.out.no HF3.out) (fun k hk => hB k (Nat.le_trans hsz hk)) ⟨A1, c1, rb1, ws⟩ HLT.out (fun k hk => hB k (Nat.le_trans hsz1 (HT13.out.2.2 k hk))) (fun y hy k hk e => by
      have h1 := HT13.out.2.2 k hk
      have h2 := (Row.bt (H.out.lr y hy) e).lt
      omega) (fun z hz k hk => (H.out.rd z hz).low HF3.out (Nat.le_trans hsz1 (HT13.out.2.2 k hk))) (by have := HS.out.1; omega) (by have := HLL.out; show ws.length ≤ _; omega))
  unfold TL.v at HK
  dsimp only at HK
  rw [HLL.out] at HK
  go_wp2_with fail
  refine HK.out.mono ?_
  rintro ee w4 ⟨rfl, ro', rw', y, hbok, hyd, _, hF4⟩
  have HBOK := Lib.hid hbok
  have hns : ∀ t k, t ≠ 32 → t ≠ 26 → BT w3 k t → ¬ (k = hb ∨ ro = some k ∨ rw = some k) := fun t k ht1 ht2 hk q => by
    obtain ⟨vo, vw, g1, g2, g3⟩ := (H.out.no HF3.out).bk
    rcases q with rfl | q | q
    · exact hk.ne g1.bt ht1 rfl
    · exact hk.ne (g2.bt q) ht2 rfl
    · exact hk.ne (g3.bt q) ht2 rfl
  have hsB : ∀ k, k = hb ∨ ro = some k ∨ rw = some k → B k := fun k q => by
    rcases q with rfl | q | q
    · exact H.out.hbn
    · exact H.out.ron k q
    · exact H.out.rwn k q
  have HF4 := Lib.hid (show Fr B w w4 from (HF3.out.mono (S' := B) (fun _ _ q => q.elim)).trans hF4 (fun k _ q => hsB k q))
  have hrow1 : LT w4 ⟨A1, c1, rb1, ws⟩ := hbok.lr _ (by simp)
  have hrow2 := Row.fr HT2.out.1 hF4 (fun k hk => hns 9 k (by decide) (by decide) (Row.bt HT2.out.1 hk))
  rw [HLL.out] at hrow2
  have HTX := Lib.hid (wTexts A1 A2 L c1 L c2 ws ws HLL.out HLL.out (by omega) w4 (Row.tr (D := Any) hrow1 (fun _ _ => trivial)) (Row.tr (D := Any) hrow2 (fun _ _ => trivial)))
  rw [show decide (ws = ws) = true from decide_eq_true rfl] at HTX
  clear hbok hyd hF4 hrow1 hrow2 hns HK HLT HT13
  go_wp2_with fail
  refine HTX.out.mono ?_
  rintro ee w5 ⟨rfl, hF5⟩
  have HB6 := Lib.hid (HBOK.out.no hF5)
  have HF6 := Lib.hid (show Fr B w w5 from HF4.out.trans hF5 (fun _ _ q => q.elim))
  have HHO := Lib.hid (bholds B w5 hb ro' rw' m oo wo (of ++ [⟨A1, c1, rb1, ws⟩]) (wf ++ [y]) HB6.out (by have := HS.out.1; rw [← List.append_assoc, List.length_append]; simp at this ⊢; omega) (fun z hz => by
    rw [← List.append_assoc] at hz
    rcases List.mem_append.1 hz with hz | hz
    · have := HS.out.2 z hz; omega
    · rw [List.mem_singleton.1 hz]; have := HLL.out; show ws.length ≤ _; omega))
  clear hF5 HTX
  go_wp2_with fail
  refine HHO.out.mono ?_
  rintro ee w7 ⟨rfl, hF7⟩
  have HB7 := Lib.hid (HB6.out.no hF7)
  have HF7 := Lib.hid (show Fr B w w7 from HF6.out.trans hF7 (fun _ _ q => q.elim))
  clear hF7
  go_wp2
  go_ret
  exact ⟨by simp, ro', rw', _, y, HB7.out, by have := HLL.out; show ws.length ≤ _; omega, HF7.out⟩
theorem opS (B : Nat → Prop) (w : World) (hb cnt : Nat) (h : BkS B w hb cnt) (hc : cnt ≤ 1000) (hB : ∀ k, w.heap.size ≤ k → B k) (o : OV) (hV : Vs w) (hC : Cf w) :
    Calls Tryd.prog 23 #[.pointer (some ⟨hb, 0, none⟩), o.v] w fun e w' => e = .returned (.bool true) ∧ BkS B w' hb (cnt + 1) ∧ Fr B w w' := by
  obtain ⟨ro, rw, m, oo, wo, of, wf, h1, h2, h3, h4⟩ := h
  refine (bop B w hb ro rw m oo wo of wf h1 hB (BkS.small hc h2 h3 h4) o hV hC).mono ?_
  rintro e w' ⟨rfl, ro', rw', y, z, g1, g2, g3⟩
  exact ⟨rfl, BkS.more g1 h2 h3 h4 (by omega), g3⟩
end Go.Proofs.YtdhlbdllidfenaaDoor.Wd
namespace Go.Proofs.YtdhlbdllidfenaaDoor.Opn
open Go.ChangeShapes Go.WideShapes Go.ChangeAt Go.RowKit Go.Deep Go.Proofs.YtdhlbdllidfenaaDoor.Mem
set_option linter.unusedVariables false
set_option linter.constructorNameAsVariable false in
set_option maxRecDepth 100000 in
theorem op1 {H : Type} {enc : TypeId × Value → H} {W : World} {b0 : Nat} {v : Value} {d : DataW H} {ps : List MemPlace} (hv : Value.okWide Tryd.prog W .any b0 44 v) (h : DataW.Trod enc Tryd.prog W 0 (fun _ => true) true 44 v d ps) :
    ∃ o : Wd.OV, v = o.v := by
  obtain ⟨cs, rfl, hsz⟩ := okWide_struct Tryd.underlying44 hv
  rw [show Tryd.prog.cellsOf 44 = 5 by kernel_rfl] at hsz
  obtain ⟨l⟩ := cs
  match l, hsz with
  | [c0, c1, c2, c3, c4], _ =>
    obtain ⟨fuel, hf⟩ := h
    obtain ⟨xs, n, _, hx, _, hlen, hF⟩ := DataW.trod_struct Tryd.underlying44 hf
    have e3 : Tryd.prog.cellsOf 3 = 1 := by kernel_rfl
    have e4 : Tryd.prog.cellsOf 9 = 1 := by kernel_rfl
    have h0 := hF 0 _ rfl
    have h1 := hF 1 _ rfl
    have h2 := hF 2 _ rfl
    have h3 := hF 3 _ rfl
    have h4 := hF 4 _ rfl
    match xs, hlen with
    | [y0, y1, y2, y3, y4], _ =>
      simp [Value.cells, e3, e4] at h0 h1 h2 h3 h4
      obtain ⟨a, q0, _, _⟩ := DataW.trod_int Tryd.underlying3 h0
      obtain ⟨s1, q1, _, _⟩ := DataW.trod_string Tryd.underlying9 h1
      obtain ⟨s2, q2, _, _⟩ := DataW.trod_string Tryd.underlying9 h2
      obtain ⟨b, q3, _, _⟩ := DataW.trod_int Tryd.underlying3 h3
      obtain ⟨c, q4, _, _⟩ := DataW.trod_int Tryd.underlying3 h4
      simp at q0 q1 q2 q3 q4
      subst q0 q1 q2 q3 q4
      exact ⟨⟨a, s1.data.toList, s2.data.toList, b, c⟩, by simp [Wd.OV.v, Wd.sv]⟩
end Go.Proofs.YtdhlbdllidfenaaDoor.Opn
namespace Go.Proofs.YtdhlbdllidfenaaDoor.Wd
open Go.RowKit Go.Proofs.YtdhlbdllidfenaaDoor.Mem
open Go.Proofs.YtdhlbdllidfenaaDoor.Nu (numL numE wNumber rNumber Vs num_dec num_is)
set_option linter.unusedVariables false
set_option linter.unusedSimpArgs false
theorem Vs.below {w w1 : World} (h : Vs w) (hf : Below w.heap.size w w1) : Vs w1 := Nu.Vs.fr h (Fr.of hf No)
theorem TR.old {w w1 : World} {A : Option Addr} {l : List (List UInt8)} (h : TR Any w A l) (hf : Below w.heap.size w w1) : TR (fun k => k < w.heap.size) w1 A l := fun j u hj => by
  obtain ⟨ad, h1, _, h3⟩ := h j u hj
  have hlt := cell_lt h3
  refine ⟨ad, h1, by rwa [add_block] at hlt, keepC (Fr.of hf No) h3 id⟩
theorem TR.imp {D D' : Nat → Prop} {w : World} {A : Option Addr} {l : List (List UInt8)} (h : TR D w A l) (hd : ∀ k, D k → D' k) : TR D' w A l := fun j u hj => by
  obtain ⟨ad, h1, h2, h3⟩ := h j u hj
  exact ⟨ad, h1, hd _ h2, h3⟩
/-- what a law's own calls may write: what is new, but for these blocks -/
def Nw (n0 : Nat) (ex : List Nat) (k : Nat) : Prop := n0 ≤ k ∧ k ∉ ex
theorem Nw.below {n0 : Nat} {ex : List Nat} {w w1 : World} (h : Fr (Nw n0 ex) w w1) (hn : n0 ≤ w.heap.size) : Below n0 w w1 := h.toB (fun k hk => hk.1) hn
theorem op_small (o : OV) : ∀ y ∈ (opW o).1, y.length ≤ 140737488351232 := by
  intro y hy
  unfold opW at hy
  by_cases h : chkO o = 0
  · obtain ⟨k, h1, h8, hk, hn, ht, a0, t0, n0, m0, hn0, hn1, hm0, hm1⟩ := chk_op h
    rw [if_neg (fun q => q h)] at hy
    dsimp only at hy
    unfold fieldsW at hy
    simp only [List.mem_cons, List.mem_append] at hy
    have hd : ∀ z : Nat, z ≤ 1099511627776 → (Lib.decDigits z).length ≤ 140737488351232 := fun z hz => by
      have := Nu.dec_len z
      omega
    rcases hy with rfl | ((hy | hy) | hy) | hy
    · rw [hk, Int.toNat_natCast]
      match k, h1, h8 with
      | 1, _, _ => decide
      | 2, _, _ => decide
      | 3, _, _ => decide
      | 4, _, _ => decide
      | 5, _, _ => decide
      | 6, _, _ => decide
      | 7, _, _ => decide
      | 8, _, _ => decide
    · split at hy
      · simp only [List.mem_singleton] at hy; subst hy; omega
      · simp at hy
    · split at hy
      · simp only [List.mem_singleton] at hy; subst hy; omega
      · simp at hy
    · split at hy
      · simp only [List.mem_singleton] at hy; subst hy; exact hd _ (by omega)
      · simp at hy
    · split at hy
      · simp only [List.mem_singleton] at hy; subst hy; exact hd _ (by omega)
      · simp at hy
  · rw [if_pos h] at hy
    simp at hy
structure LawS (n0 : Nat) (w W : World) (B : Nat → Prop) (hb cnt : Nat) : Prop where
  bk : BkS B W hb cnt
  low : Below n0 w W
  nw : ∀ k, W.heap.size ≤ k → B k
  bn : ∀ k, B k → n0 ≤ k
  sz : n0 ≤ W.heap.size
section
variable {n0 hb cnt : Nat} {w W W' : World} {B : Nat → Prop}
theorem LawS.step (h : LawS n0 w W B hb cnt) {c2 : Nat} (hf : Fr B W W') (bk : BkS B W' hb c2) : LawS n0 w W' B hb c2 :=
  ⟨bk, Below.fr h.low hf h.bn h.sz, fun k hk => h.nw k (Nat.le_trans hf.size hk), h.bn, Nat.le_trans h.sz hf.size⟩
theorem LawS.no (h : LawS n0 w W B hb cnt) (hf : Fr No W W') : LawS n0 w W' B hb cnt :=
  ⟨h.bk.no hf, Below.fr0 h.low hf h.sz, fun k hk => h.nw k (Nat.le_trans hf.size hk), h.bn, Nat.le_trans h.sz hf.size⟩
/-- what is new since then is kept apart -/
theorem LawS.apart (h : LawS n0 w W B hb cnt) (hf : Fr No W W') (E : Nat → Prop) (hE : ∀ k, E k → W.heap.size ≤ k) (hE2 : ∀ k, E k → k < W'.heap.size) : LawS n0 w W' (fun k => B k ∧ ¬ E k) hb cnt :=
  ⟨(h.bk.weaken (fun k hk q => ⟨q, fun e => by have := hE k e; omega⟩)).no hf, Below.fr0 h.low hf h.sz, fun k hk => ⟨h.nw k (Nat.le_trans hf.size hk), fun e => by have := hE2 k e; omega⟩, fun k hk => h.bn k hk.1, Nat.le_trans h.sz hf.size⟩
/-- what is written lies apart -/
theorem LawS.far (h : LawS n0 w W B hb cnt) {S : Nat → Prop} (hf : Fr S W W') (hS : ∀ k, S k → ¬ B k) (hn : ∀ k, S k → n0 ≤ k) : LawS n0 w W' B hb cnt :=
  ⟨h.bk.fr hf hS, Below.fr h.low hf hn h.sz, fun k hk => h.nw k (Nat.le_trans hf.size hk), h.bn, Nat.le_trans h.sz hf.size⟩
end
set_option maxHeartbeats 8000000 in
set_option maxRecDepth 100000 in
theorem op_row (w : World) (hV : Vs w) (hC : Cf w) (o o2 : OV)
    (A : Option Addr) (c : Nat) (l : List (List UInt8)) (hCl : TR Any w A l ∧ ∀ x ∈ l, x.length ≤ 140737488351232) (hlc : l.length ≤ c) (hby : c * 16 ≤ 140737488351232) :
    Calls Tryd.prog 6 #[o.v, o2.v, .slice A l.length c] w fun e w' => e = .returned (.bool true) ∧ Below w.heap.size w w' := by
  obtain ⟨n0, hn0⟩ : ∃ n0, w.heap.size = n0 := ⟨_, rfl⟩
  have HVB := Lib.hid (fun W (hW : Below n0 w W) => show Vs W from Vs.below hV (by rw [hn0]; exact hW))
  have HCB := Lib.hid (fun W (hW : Below n0 w W) => show Cf W from hC.fr (Fr.of (by rw [hn0]; exact hW) No))
  have HTB := Lib.hid (fun W (hW : Below n0 w W) => show TR (fun k => k < n0) W A l by have h := TR.old hCl.1 (by rw [hn0]; exact hW); rwa [hn0] at h)
  have HX := Lib.hid hCl.2
  have hcnt := op_len o
  have HRS := Lib.hid (op_small o)
  have HRB := Lib.hid (fun (h : chkO o = 0) => op_back o h l)
  have HR0 := Lib.hid (show (opW o).2 = 0 → chkO o = 0 from fun e => by
    unfold opW at e
    by_cases h : chkO o = 0
    · exact h
    · rw [if_pos h] at e; exact e)
  have HRO := Lib.hid (fun W => rOp o W)
  obtain ⟨⟨ws, er⟩, hRW⟩ : ∃ R, opW o = R := ⟨_, rfl⟩
  rw [hRW] at hcnt HRS HRB HR0 HRO
  have HO1 := Lib.hid (fun B hb W cnt (hc : cnt ≤ 1000) (hS : LawS n0 w W B hb cnt) => opS B W hb cnt hS.bk hc hS.nw o (HVB.out W hS.low) (HCB.out W hS.low))
  have HO2 := Lib.hid (fun B hb W cnt (hc : cnt ≤ 1000) (hS : LawS n0 w W B hb cnt) => opS B W hb cnt hS.bk hc hS.nw o2 (HVB.out W hS.low) (HCB.out W hS.low))
  have HO8 := Lib.hid (fun B hb W cnt (hc : cnt ≤ 1000) (hS : LawS n0 w W B hb cnt) => opS B W hb cnt hS.bk hc hS.nw ⟨8, [], [], 0, 0⟩ (HVB.out W hS.low) (HCB.out W hS.low))
  obtain ⟨kind, name, text, num, most⟩ := o
  obtain ⟨kind2, name2, text2, num2, most2⟩ := o2
  unfold Res at HRO
  unfold OV.v sv at HRO HO1 HO2 HO8 ⊢
  dsimp only at hcnt HRS HRB HR0 HRO HO1 HO2 HO8 ⊢
  obtain ⟨nb, hnb⟩ : ∃ p : ByteArray, (⟨name.toArray⟩ : ByteArray) = p := ⟨_, rfl⟩
  obtain ⟨tb, htb⟩ : ∃ p : ByteArray, (⟨text.toArray⟩ : ByteArray) = p := ⟨_, rfl⟩
  rw [hnb, htb] at HRO HO1 ⊢
  obtain ⟨nb2, hnb2⟩ : ∃ p : ByteArray, (⟨name2.toArray⟩ : ByteArray) = p := ⟨_, rfl⟩
  obtain ⟨tb2, htb2⟩ : ∃ p : ByteArray, (⟨text2.toArray⟩ : ByteArray) = p := ⟨_, rfl⟩
  rw [hnb2, htb2] at HO2 ⊢
  obtain ⟨n, hn⟩ : ∃ n, l.length = n := ⟨_, rfl⟩
  obtain ⟨L, hLw⟩ : ∃ L, ws.length = L := ⟨_, rfl⟩
  rw [hLw] at hcnt HRB HRO
  rw [hn] at hlc ⊢
  rw [hn0]
  have HN := Lib.hid hn
  have HN0 := Lib.hid hn0
  have HLW := Lib.hid hLw
  have HNB := Lib.hid hnb
  have HTXB := Lib.hid htb
  have hnn : n ≤ 8796093021990 := by omega
  obtain ⟨w3, hw3⟩ : ∃ w3, ((w.alloc (.cells #[.int .i64 kind, .string nb, .string tb, .int .i64 num, .int .i64 most] 44 (0, 0))).alloc (.cells #[.int .i64 kind2, .string nb2, .string tb2, .int .i64 num2, .int .i64 most2] 44 (0, 0))).alloc (.cells #[.slice none 0 0, .slice none 0 0, .int .i64 0] 32 (0, 0)) = w3 := ⟨_, rfl⟩
  have hF3 : Fr No w w3 := by rw [← hw3]; exact (((Fr.refl _ _).alloc _).alloc _).alloc _
  obtain ⟨bb, hbb⟩ : ∃ bb, n0 + 1 = bb := ⟨_, rfl⟩
  obtain ⟨hb, hhb⟩ : ∃ hb, bb + 1 = hb := ⟨_, rfl⟩
  have hsz1 : (w.alloc (.cells #[.int .i64 kind, .string nb, .string tb, .int .i64 num, .int .i64 most] 44 (0, 0))).heap.size = bb := by simp [hn0, hbb]
  have hsz2 : ((w.alloc (.cells #[.int .i64 kind, .string nb, .string tb, .int .i64 num, .int .i64 most] 44 (0, 0))).alloc (.cells #[.int .i64 kind2, .string nb2, .string tb2, .int .i64 num2, .int .i64 most2] 44 (0, 0))).heap.size = hb := by rw [← hhb, ← hbb]; simp [hn0]
  have hsz3 : w3.heap.size = hb + 1 := by rw [← hw3, ← hhb, ← hbb]; simp [hn0]
  have HBX3 := Lib.hid (show Bk w3 n0 44 [.int .i64 kind, .string nb, .string tb, .int .i64 num, .int .i64 most] by rw [← hw3, ← hn0]; exact ((Bk.new w 44 [.int .i64 kind, .string nb, .string tb, .int .i64 num, .int .i64 most]).alloc _).alloc _)
  have HBY3 := Lib.hid (show Bk w3 bb 44 [.int .i64 kind2, .string nb2, .string tb2, .int .i64 num2, .int .i64 most2] by rw [← hw3, ← hsz1]; exact (Bk.new _ 44 [.int .i64 kind2, .string nb2, .string tb2, .int .i64 num2, .int .i64 most2]).alloc _)
  have hK3 : Bk w3 hb 32 [.slice none 0 0, .slice none 0 0, .int .i64 ((0 : Nat) : Int)] := by rw [← hw3, ← hsz2]; exact Bk.new _ 32 [.slice none 0 0, .slice none 0 0, .int .i64 ((0 : Nat) : Int)]
  have HS3 := Lib.hid (show LawS n0 w w3 (Nw n0 [n0, bb]) hb 0 from ⟨BkS.first hK3 ⟨by omega, by simp; omega⟩, by rw [← hn0]; exact hF3.to, fun k hk => ⟨by omega, by simp; omega⟩, fun k hk => hk.1, by omega⟩)
  have HNX := Lib.hid (show ¬ Nw n0 [n0, bb] n0 by unfold Nw; simp)
  have HNY := Lib.hid (show ¬ Nw n0 [n0, bb] bb by unfold Nw; simp)
  have HW3 := Lib.hid hw3
  have HHB := Lib.hid hhb
  have HBB := Lib.hid hbb
  clear hF3 hK3 hw3 hsz1 hsz2 hsz3 hn hLw hRW hV hC hCl hn0 hhb hbb hnb htb hnb2 htb2
  generalize Nw n0 [n0, bb] = B at *
  have HC8 := Lib.hid (HO8.out B hb w3 0 (by omega) HS3.out)
  go_enter Tryd.func6, Tryd.ntmps6
  go_upto_region 2 with (fail)
  try rw [HW3.out]
  try rw [HN0.out]
  try rw [HBB.out]
  try rw [HHB.out]
  go_wp2_with fail
  refine HC8.out.mono ?_
  rintro e w4 ⟨rfl, hbk, hF⟩
  have HS4 := Lib.hid (HS3.out.step hF hbk)
  have HBX4 := Lib.hid (HBX3.out.fr hF HNX.out)
  have HBY4 := Lib.hid (HBY3.out.fr hF HNY.out)
  clear hbk hF HS3 HBX3 HBY3
  clear HC8
  have HCC := Lib.hid (HO1.out B hb w4 1 (by omega) HS4.out)
  obtain ⟨x0, x1, x2, x3, x4, xf⟩ := Bk.five HBX4.out
  go_wp2_with fail
  refine HCC.out.mono ?_
  rintro e w5 ⟨rfl, hbk, hF⟩
  clear x0 x1 x2 x3 x4 xf
  have HS5 := Lib.hid (HS4.out.step hF hbk)
  have HBX5 := Lib.hid (HBX4.out.fr hF HNX.out)
  have HBY5 := Lib.hid (HBY4.out.fr hF HNY.out)
  clear hbk hF HS4 HBX4 HBY4
  clear HCC
  have HCC := Lib.hid (HO1.out B hb w5 2 (by omega) HS5.out)
  obtain ⟨x0, x1, x2, x3, x4, xf⟩ := Bk.five HBX5.out
  go_wp2_with fail
  refine HCC.out.mono ?_
  rintro e w6 ⟨rfl, hbk, hF⟩
  clear x0 x1 x2 x3 x4 xf
  have HS6 := Lib.hid (HS5.out.step hF hbk)
  have HBX6 := Lib.hid (HBX5.out.fr hF HNX.out)
  have HBY6 := Lib.hid (HBY5.out.fr hF HNY.out)
  clear hbk hF HS5 HBX5 HBY5
  clear HCC
  have HCC := Lib.hid (HO2.out B hb w6 3 (by omega) HS6.out)
  obtain ⟨x0, x1, x2, x3, x4, xf⟩ := Bk.five HBY6.out
  go_wp2_with fail
  refine HCC.out.mono ?_
  rintro e w7 ⟨rfl, hbk, hF⟩
  clear x0 x1 x2 x3 x4 xf
  have HS7 := Lib.hid (HS6.out.step hF hbk)
  have HBX7 := Lib.hid (HBX6.out.fr hF HNX.out)
  have HBY7 := Lib.hid (HBY6.out.fr hF HNY.out)
  clear hbk hF HS6 HBX6 HBY6
  clear HCC
  have HCC := Lib.hid (HO1.out B hb w7 4 (by omega) HS7.out)
  obtain ⟨x0, x1, x2, x3, x4, xf⟩ := Bk.five HBX7.out
  go_wp2_with fail
  refine HCC.out.mono ?_
  rintro e w8 ⟨rfl, hbk, hF⟩
  clear x0 x1 x2 x3 x4 xf
  have HS8 := Lib.hid (HS7.out.step hF hbk)
  have HBX8 := Lib.hid (HBX7.out.fr hF HNX.out)
  have HBY8 := Lib.hid (HBY7.out.fr hF HNY.out)
  clear hbk hF HS7 HBX7 HBY7
  clear HCC
  have HCC := Lib.hid (writeS B w8 hb 5 HS8.out.bk (by omega) HS8.out.nw)
  go_wp2_with fail
  refine HCC.out.mono ?_
  rintro e w9 ⟨rfl, hbk, hF⟩
  have HS9 := Lib.hid (HS8.out.step hF hbk)
  have HBX9 := Lib.hid (HBX8.out.fr hF HNX.out)
  have HBY9 := Lib.hid (HBY8.out.fr hF HNY.out)
  clear hbk hF HS8 HBX8 HBY8
  clear HCC
  have HCC := Lib.hid (HO1.out B hb w9 10 (by omega) HS9.out)
  obtain ⟨x0, x1, x2, x3, x4, xf⟩ := Bk.five HBX9.out
  go_wp2_with fail
  refine HCC.out.mono ?_
  rintro e w10 ⟨rfl, hbk, hF⟩
  clear x0 x1 x2 x3 x4 xf
  have HS10 := Lib.hid (HS9.out.step hF hbk)
  have HBX10 := Lib.hid (HBX9.out.fr hF HNX.out)
  have HBY10 := Lib.hid (HBY9.out.fr hF HNY.out)
  clear hbk hF HS9 HBX9 HBY9
  clear HCC
  have HCC := Lib.hid (HO2.out B hb w10 11 (by omega) HS10.out)
  obtain ⟨x0, x1, x2, x3, x4, xf⟩ := Bk.five HBY10.out
  go_wp2_with fail
  refine HCC.out.mono ?_
  rintro e w11 ⟨rfl, hbk, hF⟩
  clear x0 x1 x2 x3 x4 xf
  have HS11 := Lib.hid (HS10.out.step hF hbk)
  have HBX11 := Lib.hid (HBX10.out.fr hF HNX.out)
  have HBY11 := Lib.hid (HBY10.out.fr hF HNY.out)
  clear hbk hF HS10 HBX10 HBY10
  clear HCC
  have HCC := Lib.hid (writeS B w11 hb 12 HS11.out.bk (by omega) HS11.out.nw)
  go_wp2_with fail
  refine HCC.out.mono ?_
  rintro e w12 ⟨rfl, hbk, hF⟩
  have HS12 := Lib.hid (HS11.out.step hF hbk)
  have HBX12 := Lib.hid (HBX11.out.fr hF HNX.out)
  have HBY12 := Lib.hid (HBY11.out.fr hF HNY.out)
  clear hbk hF HS11 HBX11 HBY11
  clear HCC
  clear HO1 HO2 HO8 HBY12
  obtain ⟨x0, x1, x2, x3, x4, xf⟩ := Bk.five HBX12.out
  go_wp2_with fail
  refine (HRO.out w12).mono ?_
  rintro e w17 ⟨A17, c17, rb17, rfl, hT17⟩
  have HR17 := Lib.hid (show Row w17 9 1 rb17 (.slice A17 L c17) L (ws.map sv) by have h := hT17.1; rw [HLW.out] at h; exact h)
  have HS17 := Lib.hid (HS12.out.no hT17.2.1)
  have HBX17 := Lib.hid (HBX12.out.fr hT17.2.1 id)
  clear hT17 x0 x1 x2 x3 x4 xf HS12 HBX12 HRO
  by_cases her : er = 0
  · subst her
    have HRB2 := Lib.hid (HRB.out (HR0.out rfl))
    have HLL := Lib.hid (show (ws ++ l).length = L + n by rw [List.length_append, HLW.out, HN.out])
    obtain ⟨q, hq⟩ : ∃ q, L + n = q := ⟨_, rfl⟩
    have hqb : q ≤ 8796093022000 := by omega
    have HXX := Lib.hid (show ∀ y ∈ ws ++ l, y.length ≤ 140737488351232 from fun y hy => by
      rcases List.mem_append.1 hy with hy | hy
      · exact HRS.out y hy
      · exact HX.out y hy)
    go_wp2_with (first | (at_builtin; refine wl_append _ rfl (.const (.slice none 0 0)) (.tmp 72) 26 rfl 9 _ 1 16 Tryd.underlying26 infoStr rfl (by decide) none _ 0 [] rfl (Row.nil _ _ _) A17 L c17 (ws.map sv) rfl (by rw [List.length_map, HLW.out, Nat.mul_one]) (fun h => (Row.tr (D := Any) HR17.out (fun _ _ => trivial)).cells (by rw [HLW.out]; exact h)) (sv_one _) (by unfold maxLen; omega) (by omega) ?_; intro A18 c18 w18 rb18 hr18 hF18 hn18; rw [Nat.zero_add, List.nil_append] at hr18; have HR18 := Lib.hid hr18; have hF18' : Fr No w17 w18 := (hF18.mono (fun _ _ q => by cases q)); have HN18 := Lib.hid (show ∀ k, rb18 = some k → w17.heap.size ≤ k from fun k hk => by (rcases hn18 with q | ⟨q', q, hq⟩; (rw [q] at hk; cases hk); (rw [q] at hk; cases hk; exact hq))); have HF18 := Lib.hid hF18'; have HT18 := Lib.hid (HTB.out w18 (HS17.out.no hF18').low); clear hr18 hF18 hF18' hn18) | (at_builtin; refine wl_append _ rfl (.tmp 73) (.tmp 74) 26 rfl 9 _ 1 16 Tryd.underlying26 infoStr rfl (by decide) rb18 _ L (ws.map sv) rfl HR18.out A n c (l.map sv) rfl (by rw [List.length_map, HN.out, Nat.mul_one]) (fun h => HT18.out.cells (by rw [HN.out]; exact h)) (sv_one _) (by unfold maxLen; omega) (by omega) ?_; intro A19 c19 w19 rb19 hr19 hF19 hn19; rw [← List.map_append] at hr19; have HR19 := Lib.hid hr19; have HF19 := Lib.hid (show Fr No w17 w19 from HF18.out.trans hF19 (fun k hk q => by have := HN18.out k q; omega)); clear hr19 hF19 hn19))
    have HS19 := Lib.hid (HS17.out.no HF19.out)
    have hr19 := HR19.out
    have hlq : (ws ++ l).length = q := by rw [HLL.out, hq]
    rw [hq] at hr19
    have HRD := Lib.hid (wReadO A19 q c19 (ws ++ l) hlq hqb HXX.out w19 (Row.tr (D := Any) hr19 (fun _ _ => trivial)) (HVB.out w19 HS19.out.low) (HCB.out w19 HS19.out.low))
    rw [HRB2.out] at HRD
    unfold Ro OV.v sv at HRD
    dsimp only at HRD
    rw [HNB.out, HTXB.out] at HRD
    clear hr19 hlq
    try rw [hq]
    refine HRD.out.mono ?_
    rintro e w20 ⟨rfl, hF20⟩
    obtain ⟨wx, hwx⟩ : ∃ wx, w20.alloc (.cells #[.int .i64 kind, .string nb, .string tb, .int .i64 num, .int .i64 most] 44 (0, 0)) = wx := ⟨_, rfl⟩
    have hFx : Fr No w20 wx := by rw [← hwx]; exact (Fr.refl _ _).alloc _
    have hbk : Bk wx w20.heap.size 44 [.int .i64 kind, .string nb, .string tb, .int .i64 num, .int .i64 most] := by rw [← hwx]; exact Bk.new w20 44 [.int .i64 kind, .string nb, .string tb, .int .i64 num, .int .i64 most]
    have hF17x : Fr No w17 wx := (HF19.out.then_ hF20).then_ hFx
    have HSx := Lib.hid (HS17.out.no hF17x)
    have hbx := HBX17.out.fr hF17x id
    obtain ⟨x0, x1, x2, x3, x4, xf⟩ := Bk.five hbx
    obtain ⟨y0, y1, y2, y3, y4, yf⟩ := Bk.five hbk
    clear hF20 hFx hF17x hbx hbk HRD HS19 HF19 HR19
    go_upto_region 8 with (fail)
    try rw [hwx]
    clear hwx
    go_wp2
    go_ret
    exact ⟨by simp, HSx.out.low⟩
  · have e1 : (er != 0) = true := by rw [bne_iff_ne]; exact her
    go_wp2
    go_ret
    exact ⟨by simp, HS17.out.low⟩
end Go.Proofs.YtdhlbdllidfenaaDoor.Wd
namespace Go.Proofs.YtdhlbdllidfenaaDoor.wordsOp
open Go.ChangeShapes Go.WideShapes Go.ChangeAt Go.RowKit
open Go.ChangeMaps (open_string shut_string)
set_option linter.unusedVariables false
def laid : List (String × DataW Unit) := [("math/bits.deBruijn32tab", Rows.laid_math_bits_deBruijn32tab), ("math/bits.deBruijn64tab", Rows.laid_math_bits_deBruijn64tab), ("internal/strconv.uint64pow10", Rows.laid_internal_strconv_uint64pow10), ("strconv.ErrRange", Rows.laid_strconv_ErrRange), ("strconv.ErrSyntax", Rows.laid_strconv_ErrSyntax), ("flotilla/words.forms", Rows.laid_flotilla_words_forms)]
theorem gTab : Tryd.prog.globalNamed "internal/strconv.uint64pow10" = some 4 := by kernel_rfl
theorem tTab : (Tryd.prog.globals[4]?).map (·.type) = some 101 := by kernel_rfl
theorem gS : Tryd.prog.globalNamed "strconv.ErrSyntax" = some 2 := by kernel_rfl
theorem tS : (Tryd.prog.globals[2]?).map (·.type) = some 51 := by kernel_rfl
theorem gR : Tryd.prog.globalNamed "strconv.ErrRange" = some 3 := by kernel_rfl
theorem tR : (Tryd.prog.globals[3]?).map (·.type) = some 51 := by kernel_rfl
theorem cE : Tryd.prog.cellsOf 99 = 1 := by kernel_rfl
theorem cS : Tryd.prog.cellsOf 9 = 1 := by kernel_rfl
theorem star : "*" ++ "errors.errorString" = "*errors.errorString" := by decide
theorem rowE (u : TypeId) (h : Tryd.prog.typeName? 3 u = some "*errors.errorString") : u = 97 :=
  typeName_ptr_named (nm := "errors.errorString") (by rw [star]; kernel_rfl) (by kernel_rfl) (by decide) u (by rw [star]; exact h)
theorem door_met (os : Os) (args : Array Value) : laidMetH Tryd.prog laid ((World.doorLaid Tryd.prog 400 os).forCall (fun _ _ => 0) ⟨#[], args, []⟩).memory :=
  laidMetH_of_parts3 (fuel := 8) (laidMet_of_run' 8 (by kernel_rfl) (by kernel_rfl)) (by kernel_rfl) (by kernel_rfl)
theorem of_laid {W : World} (h : laidMetH Tryd.prog laid W) : Nu.Vs W := by
  rw [MakeChecks.laidMetH_plain _ _ _ (by kernel_rfl)] at h
  have h1 : laidMet Tryd.prog [("internal/strconv.uint64pow10", Lib.tabData .u64 Lib.pow10Tab)] W := by
    have z := h.filter (fun x => x.1 == "internal/strconv.uint64pow10")
    rw [show (laid.filter fun x => x.1 == "internal/strconv.uint64pow10") = [("internal/strconv.uint64pow10", Lib.tabData .u64 Lib.pow10Tab)] by kernel_rfl] at z
    exact z
  have h2 : laidMet Tryd.prog [("strconv.ErrSyntax", Rows.laid_strconv_ErrSyntax)] W := by
    have z := h.filter (fun x => x.1 == "strconv.ErrSyntax")
    rw [show (laid.filter fun x => x.1 == "strconv.ErrSyntax") = [("strconv.ErrSyntax", Rows.laid_strconv_ErrSyntax)] by kernel_rfl] at z
    exact z
  have h3 : laidMet Tryd.prog [("strconv.ErrRange", Rows.laid_strconv_ErrRange)] W := by
    have z := h.filter (fun x => x.1 == "strconv.ErrRange")
    rw [show (laid.filter fun x => x.1 == "strconv.ErrRange") = [("strconv.ErrRange", Rows.laid_strconv_ErrRange)] by kernel_rfl] at z
    exact z
  refine ⟨Lib.tabIs_of_head (rest := []) gTab tTab Tryd.underlying101 Tryd.underlying82 (by kernel_rfl) (by kernel_rfl) h1, ?_, ?_⟩
  · obtain ⟨a0, s0, hv0, -, -, -⟩ := laid_sentinel h2 gS tS Tryd.underlying51 rowE Tryd.underlying97 Tryd.underlying99 rfl rfl Tryd.underlying9 cE cS
    exact ⟨_, _, hv0⟩
  · obtain ⟨a0, s0, hv0, -, -, -⟩ := laid_sentinel h3 gR tR Tryd.underlying51 rowE Tryd.underlying97 Tryd.underlying99 rfl rfl Tryd.underlying9 cE cS
    exact ⟨_, _, hv0⟩
theorem of_laid2 {W : World} (h : laidMetH Tryd.prog laid W) : Wd.Cf W := by
  rw [MakeChecks.laidMetH_plain _ _ _ (by kernel_rfl)] at h
  have z := h.filter (fun x => x.1 == "flotilla/words.forms")
  rw [show (laid.filter fun x => x.1 == "flotilla/words.forms") = [("flotilla/words.forms", .agg (Wd.pairsL.map fun z => .agg [.lit (.string z.1), .lit (.string z.2)]))] by kernel_rfl] at z
  exact Wd.cf_of z
theorem own : ownKnob Tryd.prog.godebug = none := by kernel_rfl
theorem laidOut : laidOutB Tryd.prog = true := by kernel_rfl
set_option maxRecDepth 100000 in
theorem lifted (os : Os) (started : os.Started) (H : Type) (enc : TypeId × Value → H) :
    ReturnsInHanded {} Tryd.checked os 6 .any (fun w args => (Rows.wordsOpSpec.pre enc Tryd.prog Tryd.f6 [] false w args ∧ laidMetH Tryd.prog laid w) ∧ sizedMet enc Tryd.prog Tryd.f6 (OpenSpec.ofChange Rows.wordsOpSpec) false w args) (Rows.wordsOpSpec.post enc Tryd.prog Tryd.f6 false true false false) := by
  refine returnsInHanded_of_change_and (C := Tryd.checked) (X := fun w _ => laidMetH Tryd.prog laid w) (fun _ _ _ hh h => h.of_heap hh) own started (by kernel_rfl) Tryd.func6
    (ChangeSpec.witness_shaped (enc := enc) (C := Tryd.checked) (os := os) (X := fun w _ => laidMetH Tryd.prog laid w) false (World.doorLaid Tryd.prog 400 os) #[.agg #[.int .i64 0, .string ByteArray.empty, .string ByteArray.empty, .int .i64 0, .int .i64 0], .agg #[.int .i64 0, .string ByteArray.empty, .string ByteArray.empty, .int .i64 0, .int .i64 0], .slice none 0 0] 8 rfl (World.shaped_of_RefB (by kernel_rfl) (by kernel_rfl)) (by kernel_rfl) (by kernel_rfl) (by kernel_rfl) (door_met os _)) ?_
  intro W base args ds gs before hval0 hW hcnd hsz0 hL _
  have hsz : (DataW.weightsEach Tryd.prog (Tryd.f6.params.toList ++ Rows.wordsOpSpec.plain.varTypes Tryd.prog) (ds ++ gs)).all (· ≤ reachBytes) = true := hsz0
  have hval : ∀ (j : Nat) t v, Tryd.f6.params[j]? = some t → args[j]? = some v → Value.okWide Tryd.prog W .any base t v := hval0
  have hW' := hW
  obtain ⟨p, q, hA0, hV, rfl, hfz, hnd⟩ := hW
  have hA : DataW.TrodAll enc Tryd.prog W 0 (fun _ => true) true Tryd.f6.params.toList args.toList ds p := hA0
  rw [Tryd.params6] at hA hval hsz
  obtain ⟨v0, vs0, d0, ds0, p0, q0, hargs, rfl, rfl, h0, r0⟩ := trodAll_cons hA
  obtain ⟨v1, vs1, d1, ds1, p1, q1, rfl, rfl, rfl, h1, r1⟩ := trodAll_cons r0
  obtain ⟨v2, vs2, d2, ds2, p2, q2, rfl, rfl, rfl, h2, r2⟩ := trodAll_cons r1
  obtain ⟨rfl, rfl, rfl⟩ := trodAll_nil r2
  obtain rfl : args = #[v0, v1, v2] := by cases args; simp_all
  obtain ⟨rfl, rfl⟩ := trodVars_none hV
  have k0 := h0
  have lt0 : ∀ x ∈ p0, x.block < W.heap.size := by obtain ⟨m, hm⟩ := k0; exact DataW.trod_lt m _ _ _ hm
  obtain ⟨o0, rfl⟩ := Opn.op1 (hval 0 44 v0 rfl rfl) h0
  have k1 := h1
  have lt1 : ∀ x ∈ p1, x.block < W.heap.size := by obtain ⟨m, hm⟩ := k1; exact DataW.trod_lt m _ _ _ hm
  obtain ⟨o1, rfl⟩ := Opn.op1 (hval 1 44 v1 rfl rfl) h1
  have k2 := h2
  have lt2 : ∀ x ∈ p2, x.block < W.heap.size := by obtain ⟨m, hm⟩ := k2; exact DataW.trod_lt m _ _ _ hm
  obtain ⟨A2, len2, cap2, rfl⟩ := okWide_slice Tryd.underlying26 (hval 2 26 v2 rfl rfl)
  obtain ⟨l2, hl2, hC2, hlc2, hby2⟩ := Opn.strs (Opn.sz_of hsz (j := 2) rfl rfl) h2
  subst hl2
  clear hA0 hval0 hsz0 hsz
  have hTab := of_laid hL
  have hCd := of_laid2 hL
  refine (Wd.op_row W hTab hCd o0 o1 A2 cap2 l2 hC2 hlc2 hby2).mono fun e W' ⟨he, bel⟩ => ?_
  subst he
  exact ⟨_, rfl, _, _, _, [], _, [], hW', trodAll_mk1 (shut_bool Tryd.underlying4 _), (trodAll_cons_mk (Below.trod laidOut (by kernel_rfl) (of_decide_eq_true (by kernel_rfl)) k0 bel lt0) (trodAll_cons_mk (Below.trod laidOut (by kernel_rfl) (of_decide_eq_true (by kernel_rfl)) k1 bel lt1) (trodAll_cons_mk (Below.trod laidOut (by kernel_rfl) (of_decide_eq_true (by kernel_rfl)) k2 bel lt2) trodAll_mk0))), rfl, bel.frame _, fun h => by cases h⟩
theorem over : Rows.wordsOpRow.holds Tryd.pinned (OpenSpec.ofChange Rows.wordsOpSpec) :=
  OpenClaim.holds_of_wide 6 Tryd.f6 rfl rfl rfl rfl rfl rfl rfl ⟨rfl, rfl, rfl, rfl, rfl⟩ rfl rfl rfl rfl rfl (by kernel_rfl) Tryd.func6 (by kernel_rfl)
    (of_decide_eq_true (by kernel_rfl)) (by unfold Func.isWrapper; first | (rw [if_pos (by decide +kernel)]; kernel_rfl) | (rw [if_neg (by decide +kernel)]; exact ⟨rfl, rfl⟩))
    (fun os started H enc _ => lifted os started H enc)
theorem card_holds : Rows.WordsOpCardSaid :=
  Claim7.holds_tied_plain_at .later [] [.data, .data, .data, .sentinel, .sentinel, .data] true (true, "323a44a4a49cd40669fb7c5e5b16d573d6f6c180b4cdb52273e44c1422f1fb64") true
    over (fun _ h => by cases h) (by kernel_rfl) (fun _ h => by cases h) wordsOp_row_tie rfl ⟨rfl, rfl⟩ (by kernel_rfl) rfl
    (fun f fn hf hfn => by
      obtain rfl : f = 6 := Option.some.inj ((show Tryd.prog.funcNamed "flotilla/flotillalaw16.WordsOp" = some 6 by kernel_rfl).symm.trans hf) |>.symm
      obtain rfl : fn = Tryd.f6 := (Option.some.inj (Tryd.func6.symm.trans hfn)).symm
      exact ⟨by kernel_rfl, fun j t ht => by
        rw [Tryd.params6] at ht
        have hm : t ∈ [44, 44, 26] := by simpa using Array.mem_of_getElem? ht
        have hall : ([44, 44, 26].all fun u => !Tryd.prog.wantsStandIn u) = true := by kernel_rfl
        exact (show Tryd.prog.wantsStandIn t = false by simpa using List.all_eq_true.1 hall t hm)⟩)
    (by kernel_rfl)
#print axioms card_holds
end Go.Proofs.YtdhlbdllidfenaaDoor.wordsOp
namespace Go.Proofs.YtdhlbdllidfenaaDoor
/-- The card, under a short name, for the claim. -/
theorem wordsOp_holds : Rows.WordsOpCardSaid := wordsOp.card_holds
end Go.Proofs.YtdhlbdllidfenaaDoor
