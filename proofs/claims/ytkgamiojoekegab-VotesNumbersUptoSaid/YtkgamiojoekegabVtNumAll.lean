/-
  Proved: Faults, Majority, Primary, Point at all numbers are the document's, and what is handed in stays: VotesNumbers answers true for every input of the bulk that its Upto form asks. Conditions: the Upto form's bulk.
    The frame was written by a program of ours.
-/
import Derived.Test.YtkgamiojoekegabVtH
import Derived.Test.YtkgamiojoekegabBeM
import Derived.Test.YtkgamiojoekegabVtR
import Derived.Test.YtkgamiojoekegabPVotesNumbersx4
import Derived.BigQuiet
import Derived.Deep.QuietTactic
import Derived.Test.YtkgamiojoekegabBeU
import Derived.Test.YtkgamiojoekegabRows
import Derived.WalkKit
import Derived.ProofKit
import Derived.OpenShut
import Derived.ShutString
import Derived.ChangeOld
import Derived.Below
import Derived.SizedLaws
import Derived.JoinedCond
namespace Go.Proofs.Ytkgamiojoekegab.Vt
open Go.RowKit Go.Proofs.YtkgamiojoekegabW.PrintWords Go.Proofs.Ytkgamiojoekegab.PVotesConfigs Go.Proofs.Ytkgamiojoekegab.PVotesNumbers
set_option linter.unusedVariables false

theorem int_cells {w : World} {ad : Addr} {l : List Int} (h : Kd.C (Kd.int .i64) w (some ad) l.length l) : ∀ j u, (l.map (Value.int .i64))[j]? = some u → w.cell? (ad.add j) = some u := by
  intro j u hj
  obtain ⟨hlt, hv⟩ := List.getElem?_eq_some_iff.1 hj
  rw [List.length_map] at hlt
  obtain ⟨ad', e, hc⟩ := Kd.at_int h (j : Int) (by omega) (by omega)
  obtain rfl := Option.some.inj e
  rw [Int.toNat_natCast, rd_atI l j hlt] at hc
  rw [hc, ← hv, List.getElem_map]
/-- the list's own copy: l, then k marks, then what is not marked yet -/
def MB (w : World) (g : Nat) (l : List Int) (k : Nat) (R : List Value) : Prop := w.heap[g]? = some (.cells ((l.map (Value.int .i64)) ++ (List.replicate k (Value.int .i64 (-77)) ++ R)).toArray 3 (0, 0))
theorem MB.cell {w : World} {g : Nat} {l : List Int} {k : Nat} {R : List Value} {r : Value} (h : MB w g l k (r :: R)) : w.cell? ⟨g, l.length + k, none⟩ = some r := by
  rw [Blk.cell h]
  simp
theorem MB.set {w : World} {g : Nat} {l : List Int} {k : Nat} {R : List Value} {r : Value} (h : MB w g l k (r :: R)) : MB (w.setCell ⟨g, l.length + k, none⟩ (.int .i64 (-77))) g l (k + 1) R := by
  refine (Blk.set h (l.length + k) (.int .i64 (-77))).trans ?_
  congr 2
  simp [List.replicate_succ']
theorem makeN {w : World} {ops : Array Oper} {rest : List Oper} {o : Oper} {a : Act} {Q : Exit → Act → World → Prop} (hgd : o.guard = none) (l c : Operand) (ho : o.op = Op.makeSlice 28 l c)
    (L : Int) (n : Nat) (hn : n ≤ 3000000) (hl : a.eval l = .int .i64 L) (hc : a.eval c = .int .i64 L) (hL : L = (n : Int))
    (h : ∀ w' cur, w'.heap[w.heap.size]? = some (.cells cur 3 (0, 0)) → cur.size = n → Below w.heap.size w w' → wpList Try.prog ops Q rest (a.put o.dst (.slice (some ⟨w.heap.size, 0, none⟩) n n)) w') : wpList Try.prog ops Q (o :: rest) a w := by
  obtain ⟨i, hi, hz, h1, h2⟩ := info3'
  refine wpList_make_full w hgd l c 28 ho w.heap.size 3 i _ 1 Try.underlying28 hi hz h1 .i64 .i64 L L n hl hc hL hL (by rw [h2]; omega) (by unfold maxLen; omega) (Nat.le_refl _) ?_
  intro w' hown hg
  have hb : Below w.heap.size w w' := (Below.refl _ _).grown hg (Nat.le_refl _) (by simp)
  have hown2 := hown.2
  generalize hgs : w.heap.size = gs at hown2 h ⊢
  rcases hown2 with ⟨h0, _⟩ | ⟨g', cap', cur, e, _, hh, _, _, hsz, htk⟩
  · cases h0
  · injection e with e1 e2 e3
    injection e1 with e1
    injection e1 with e1
    subst e1 e3
    exact h w' cur hh (by omega) (by rw [← hgs]; exact hb)
theorem copyI {w : World} {ops : Array Oper} {rest : List Oper} {o : Oper} {a : Act} {Q : Exit → Act → World → Prop} (hgd : o.guard = none) (d s : Operand)
    (ho : o.op = .call { callee := .builtin .copy, args := #[d, s], argTypes := #[28, 28] }) (base g : Nat) (l : List Int) (A : Option Addr) (c : Nat) (hd : a.eval d = .slice (some ⟨g, 0, none⟩) (l.length + 4) (l.length + 4)) (hs : a.eval s = .slice A l.length c)
    (cur : Array Value) (hcur : w.heap[g]? = some (.cells cur 3 (0, 0))) (hsz : cur.size = l.length + 4) (hA : Kd.C (Kd.int .i64) w A l.length l) (hbg : base ≤ g)
    (h : ∀ w' R, R.length = 4 → MB w' g l 0 R → Below base w w' → wpList Try.prog ops Q rest (a.put o.dst (goInt l.length)) w') : wpList Try.prog ops Q (o :: rest) a w := by
  by_cases h0 : l.length = 0
  · obtain rfl : l = [] := List.eq_nil_of_length_eq_zero h0
    exact Be.wpList_copy_zero hgd d s 28 28 ho 3 Try.underlying28 (by kernel_rfl) _ A _ _ _ c hd hs (by simp) (h w cur.toList (by rw [Array.length_toList, hsz]; rfl) (by show _ = _; rw [hcur]; simp) (Below.refl _ _))
  · obtain ⟨ad, rfl⟩ : ∃ ad, A = some ad := by obtain ⟨ad, e, _⟩ := hA.2.2 (by omega); exact ⟨ad, e⟩
    have hlt := Blk.lt hcur
    refine Be.wpList_copy_cells hgd d s 28 28 ho 3 1 Try.underlying28 (by kernel_rfl) g 0 _ _ ad _ c hd hs cur 3 hcur (l.map (Value.int .i64)) l.length (by simp) (by simp) (int_cells hA) (by rw [hsz]; simp) (by intro u hu; obtain ⟨x, _, rfl⟩ := List.mem_map.1 hu; rfl) ?_
    refine h _ (cur.toList.drop l.length) (by rw [List.length_drop, Array.length_toList, hsz]; omega) ?_ (below_setRow (Below.refl base w) hbg _)
    exact (setRow_heap w g _ _ 3 _ hcur).trans (by simp)
end Go.Proofs.Ytkgamiojoekegab.Vt
namespace Go.Proofs.Ytkgamiojoekegab.Vt
open Go.RowKit Go.Proofs.YtkgamiojoekegabW.PrintWords Go.Proofs.Ytkgamiojoekegab.PVotesNumbers
set_option linter.unusedVariables false

theorem rfl_f (n : Int) : flotillaref04_Fleet.f n = some (fl n) := by
  unfold flotillaref04_Fleet.f fl
  by_cases h : n = 3
  · simp [h]
  · by_cases h5 : n = 5
    · simp [h5]
    · simp [h, h5]
def majS (n : Int) : Int := if fl n = true then (n - 1) / 2 + 1 else 0
theorem fl_or (n : Int) (h : fl n = true) : n = 3 ∨ n = 5 ∨ n = 7 := by
  unfold fl at h
  simp at h
  omega
theorem rmaj_f (n : Int) : flotillaref04_Majority.f n = some (majS n) := by
  unfold flotillaref04_Majority.f majS
  rw [rfl_f, Option.bind_some]
  by_cases h : fl n = true
  · rw [if_pos h, if_pos h]
    rcases fl_or n h with rfl | rfl | rfl <;> kernel_rfl
  · rw [if_neg h, if_neg h]
theorem rpl1 (n b : Int) (f : Bool) (l : List Int) (i : Nat) (hn : (l.length : Int) = n) (hi : i < l.length) (hl : l.length ≤ 100) : ∀ (d j : Nat), l.length - j = d → j ≤ l.length → ∀ (k : Nat) (c : Int), 0 ≤ c → c ≤ j →
    flotillaref04_Point.l1 (k + d) n l b f (i : Int) c (j : Int) = flotillaref04_Point.l1 k n l b f (i : Int) (c + ((l.drop j).countP (fun v => decide (rd l (i : Int) ≤ v)) : Nat)) (l.length : Int) := by
  intro d
  induction d with
  | zero =>
    intro j hd hj k c h0 h1
    obtain rfl : j = l.length := by omega
    simp
  | succ d ih =>
    intro j hd hj k c h0 h1
    have hlt : j < l.length := by omega
    rw [show k + (d + 1) = (k + d) + 1 by omega, flotillaref04_Point.l1, if_pos (by omega), if_pos (by omega), if_pos (by omega), if_pos (by omega), if_pos (by omega), w1 (j : Int) (by omega) (by omega), dropI l j hlt, List.countP_cons]
    by_cases h : rd l (j : Int) ≥ rd l (i : Int)
    · rw [if_pos h, w1 c h0 (by omega)]
      have := ih (j + 1) (by omega) (by omega) k (c + 1) (by omega) (by omega)
      rw [show ((j + 1 : Nat) : Int) = (j : Int) + 1 by omega] at this
      rw [this]
      congr 1
      simp [h]
      omega
    · rw [if_neg h]
      have := ih (j + 1) (by omega) (by omega) k c h0 (by omega)
      rw [show ((j + 1 : Nat) : Int) = (j : Int) + 1 by omega] at this
      rw [this]
      congr 1
      simp [h]
theorem rpl0 (n m : Int) (l : List Int) (hn : (l.length : Int) = n) (hl : l.length ≤ 100) (hm : flotillaref04_Majority.f n = some m) : ∀ (d i : Nat), l.length - i = d → i ≤ l.length → ∀ (s : Int × Bool),
    ∃ k0, ∀ k, k0 ≤ k → flotillaref04_Point.l0 k n l s.1 s.2 (i : Int) = some (((l.drop i).foldl (pst m l) s).1, 0) := by
  intro d
  induction d with
  | zero =>
    intro i hd hi s
    obtain rfl : i = l.length := by omega
    refine ⟨1, fun k hk => ?_⟩
    obtain ⟨q, rfl⟩ : ∃ q, k = q + 1 := ⟨k - 1, by omega⟩
    rw [flotillaref04_Point.l0, if_neg (by omega)]
    simp
  | succ d ih =>
    intro i hd hi s
    have hlt : i < l.length := by omega
    obtain ⟨k1, h1⟩ := ih (i + 1) (by omega) (by omega) (pst m l s (rd l (i : Int)))
    refine ⟨k1 + l.length + 2, fun k hk => ?_⟩
    obtain ⟨q, rfl⟩ : ∃ q, k = (q + 1 + (l.length - 0)) + 1 := ⟨k - l.length - 2, by omega⟩
    rw [flotillaref04_Point.l0, if_pos (by omega)]
    have e := rpl1 n s.1 s.2 l i hn hlt hl (l.length - 0) 0 rfl (by omega) (q + 1) 0 (by omega) (by omega)
    rw [show ((0 : Nat) : Int) = 0 from rfl, List.drop_zero, Int.zero_add] at e
    rw [e, flotillaref04_Point.l1, if_neg (by omega), hm, Option.bind_some, w1 (i : Int) (by omega) (by omega), dropI l i hlt, List.foldl_cons]
    rw [show (i : Int) + 1 = ((i + 1 : Nat) : Int) by omega]
    have h2 := h1 q (by omega)
    rw [← h2]
    unfold pst mny
    by_cases c1 : m ≤ ((l.countP (fun v => decide (rd l (i : Int) ≤ v)) : Nat) : Int)
    · rw [if_pos (by omega), if_pos c1]
      by_cases c2 : s.2 = true
      · rw [if_pos c2, if_pos c2, if_pos (by omega), if_pos (by omega)]
        by_cases c3 : s.1 < rd l (i : Int)
        · rw [if_pos (by omega), if_pos c3]
        · rw [if_neg (by omega), if_neg c3]
      · rw [if_neg c2, if_neg c2, if_pos (by omega), if_pos (by omega)]
    · rw [if_neg (by omega), if_neg c1]
theorem rpoint_f (n : Int) (l : List Int) (hf : fl n = true) (hl : (l.length : Int) = n) : ∃ k, flotillaref04_Point.f k n l = some (pointS (majS n) l, 0) := by
  have h3 := fl_or n hf
  obtain ⟨k0, h⟩ := rpl0 n (majS n) l hl (by omega) (rmaj_f n) (l.length - 0) 0 rfl (by omega) (0, false)
  refine ⟨k0 + 1, ?_⟩
  unfold flotillaref04_Point.f
  rw [rfl_f, hf, Option.bind_some, if_pos rfl, flotillaref04_Point.j0]
  have hne : ((l.length : Int) != n) = false := by simp [hl]
  rw [hne, if_neg (by decide)]
  exact h k0 (Nat.le_refl _)
theorem rpoint_no (n : Int) (l : List Int) (h : fl n = false ∨ (l.length : Int) ≠ n) : flotillaref04_Point.f 9 n l = some (0, 40) := by
  unfold flotillaref04_Point.f
  rw [rfl_f, Option.bind_some]
  by_cases hf : fl n = true
  · rw [if_pos hf, flotillaref04_Point.j0]
    have : (l.length : Int) ≠ n := by rcases h with h | h; (rw [hf] at h; cases h); exact h
    have hne : ((l.length : Int) != n) = true := by simp [this]
    rw [hne, if_pos rfl]
  · rw [if_neg hf, flotillaref04_Point.j0, if_pos rfl]
end Go.Proofs.Ytkgamiojoekegab.Vt
namespace Go.Proofs.Ytkgamiojoekegab.Vt
open Go.RowKit Go.Proofs.YtkgamiojoekegabW.PrintWords
set_option linter.unusedVariables false

theorem maj_any (n : Int) : PVotesConfigs.votes_Majority.f n = some (majS n) := by
  by_cases h : fl n = true
  · rcases fl_or n h with rfl | rfl | rfl <;> kernel_rfl
  · unfold PVotesConfigs.votes_Majority.f majS
    rw [fl_f, Option.bind_some, if_neg h, if_neg h]
def fltS (n : Int) : Int := if fl n = true then wrap64 (Int.tdiv (wrap64 (n - 1)) 2) else 0
theorem flt_any (n : Int) : PVotesConfigs.votes_Faults.f n = some (fltS n) := by
  unfold PVotesConfigs.votes_Faults.f fltS
  rw [fl_f, Option.bind_some]
  by_cases h : fl n = true
  · rw [if_pos h, if_pos h]
  · rw [if_neg h, if_neg h]
theorem rflt_any (n : Int) : PVotesNumbers.flotillaref04_Faults.f n = some (fltS n) := by
  unfold PVotesNumbers.flotillaref04_Faults.f fltS
  rw [rfl_f, Option.bind_some]
  by_cases h : fl n = true
  · rw [if_pos h, if_pos h]
  · rw [if_neg h, if_neg h]
def pS (n : Int) (l : List Int) : Int × Int := if fl n = true ∧ (l.length : Int) = n then (pointS (majS n) l, 0) else (0, 40)
theorem point_any (n : Int) (l : List Int) : ∃ k, PVotesConfigs.votes_Point.f k n l = some (pS n l) := by
  by_cases h : fl n = true ∧ (l.length : Int) = n
  · rw [pS, if_pos h]
    exact point_f n (majS n) l (fl_or n h.1) h.2 (maj_any n)
  · rw [pS, if_neg h]
    refine ⟨9, point_no n l ?_⟩
    by_cases hf : fl n = true
    · exact .inr fun e => h ⟨hf, e⟩
    · exact .inl (by simpa using hf)
theorem rpoint_any (n : Int) (l : List Int) : ∃ k, PVotesNumbers.flotillaref04_Point.f k n l = some (pS n l) := by
  by_cases h : fl n = true ∧ (l.length : Int) = n
  · rw [pS, if_pos h]
    exact rpoint_f n l h.1 h.2
  · rw [pS, if_neg h]
    refine ⟨9, rpoint_no n l ?_⟩
    by_cases hf : fl n = true
    · exact .inr fun e => h ⟨hf, e⟩
    · exact .inl (by simpa using hf)
theorem prim_any (n v : Int) : ∃ r, PVotesConfigs.votes_Primary.f n v = some r ∧ PVotesNumbers.flotillaref04_Primary.f n v = some r := by
  unfold PVotesConfigs.votes_Primary.f PVotesNumbers.flotillaref04_Primary.f
  rw [fl_f, rfl_f, Option.bind_some]
  by_cases h : fl n = true
  · rw [if_pos h]
    by_cases hv : v < 0
    · rw [if_pos hv]; exact ⟨_, rfl, rfl⟩
    · have hn : ¬ n = 0 := by have := fl_or n h; omega
      rw [if_neg hv, if_neg hn]; exact ⟨_, rfl, rfl⟩
  · rw [if_neg h]; exact ⟨_, rfl, rfl⟩
end Go.Proofs.Ytkgamiojoekegab.Vt
namespace Go.Proofs.Ytkgamiojoekegab.Vt
open Go.RowKit Go.Proofs.YtkgamiojoekegabW.PrintWords Go.Proofs.Ytkgamiojoekegab.PVotesConfigs Go.Proofs.Ytkgamiojoekegab.PVotesNumbers
set_option linter.unusedVariables false

theorem MB.C {w : World} {g : Nat} {l : List Int} {k : Nat} {R : List Value} (h : MB w g l k R) (hl : l.length ≤ 3000000) : Kd.C (Kd.int .i64) w (some ⟨g, 0, none⟩) l.length l := by
  refine ⟨rfl, by omega, fun _ => ⟨_, rfl, fun j p hj => ⟨[.int .i64 p], rfl, rfl, fun i u hu => ?_⟩⟩⟩
  show w.cell? _ = _
  rw [add_plain, Blk.cell h]
  obtain rfl : i = 0 := by
    have := (List.getElem?_eq_some_iff.1 hu).1
    simp at this
    omega
  simp at hu
  subst hu
  have hlt := (List.getElem?_eq_some_iff.1 hj).1
  show ((l.map (Value.int .i64)) ++ (List.replicate k (Value.int .i64 (-77)) ++ R)).toArray[j * 1 + 0]? = _
  rw [List.getElem?_toArray, Nat.mul_one, Nat.add_zero, List.getElem?_append_left (by simpa using hlt)]
  simp [hj]

theorem MB.keep {w w' : World} {g : Nat} {l : List Int} {k : Nat} {R : List Value} (h : MB w g l k R) (hb : w'.heap[g]? = w.heap[g]?) : MB w' g l k R := hb.trans h
theorem MB.lo {w : World} {g : Nat} {l : List Int} {j : Nat} {R : List Value} (h : MB w g l j R) (k : Nat) (hk : k < l.length) : w.cell? ⟨g, k, none⟩ = some (.int .i64 (rd l (k : Int))) := by
  rw [Blk.cell h, List.getElem?_toArray, List.getElem?_append_left (by simpa using hk), rd_atI l k hk]
  simp [hk]
theorem MB.hi {w : World} {g : Nat} {l : List Int} (h : MB w g l 4 []) (k : Nat) (hk : ¬ k < l.length) (h4 : k < l.length + 4) : w.cell? ⟨g, k, none⟩ = some (.int .i64 (-77)) := by
  rw [Blk.cell h, List.getElem?_toArray, List.getElem?_append_right (by simpa using hk), List.append_nil, List.getElem?_replicate, if_pos (by simp; omega)]

set_option maxHeartbeats 2000000 in
set_option maxRecDepth 100000 in
theorem numbers_walk (n view : Int) (hvw : (Lit.int .i64 view).wf = true) (A : Option Addr) (c : Nat) (l : List Int) (w : World) (hA : Kd.C (Kd.int .i64) w A l.length l) (hlc : l.length ≤ c) (hb : l.length ≤ 2000000) :
    Calls Try.prog 7 #[.int .i64 n, .int .i64 view, .slice A l.length c] w fun e w' => e = .returned (.bool true) ∧ Below w.heap.size w w' := by
  have HA := Lib.hid hA
  have HV := Lib.hid hvw
  clear hA hvw
  have hw4 : IntKind.i64.wrap ((l.length : Int) + 4) = (l.length : Int) + 4 := IntWalk.i64_in _ (by omega)
  go_enter Try.func7, Try.ntmps7
  go_wp2_with fail
  refine (shown28 w).mono ?_
  rintro e w1 ⟨rfl, hB1⟩
  have hwg := hB1.size
  go_wp2_with (first | (at_make; refine makeN rfl (.tmp 19) (.tmp 19) rfl ((l.length : Int) + 4) (l.length + 4) (by omega) rfl rfl (by omega) ?_; intro w3 cur hI3 hsz hb3; have HCA := Lib.hid (Kd.C_below HA.out (hB1.trans (hb3.mono hB1.size)))) | (refine copyI rfl (.tmp 21) (.tmp 22) rfl w.heap.size w1.heap.size l A c rfl rfl cur hI3 hsz HCA.out hwg ?_; intro w4 R hR hM hb4))
  have hB4 := (hB1.trans (hb3.mono hB1.size)).trans hb4
  obtain ⟨g, hg⟩ : ∃ g, w1.heap.size = g := ⟨_, rfl⟩
  rw [hg] at hM hwg ⊢
  have HM := Lib.hid hM
  clear hM hb4 hb3 hI3 hsz HCA hg hB1
  go_wp2
  go_loopw [9] (fun i wr => ∃ (k : Nat) (R : List Value), k ≤ 4 ∧ i = .int .i64 ((l.length + k : Nat) : Int) ∧ R.length = 4 - k ∧ Hid (MB wr g l k R) ∧ Below w.heap.size w wr) (fun i _ => l.length + 4 - (intOf i).toNat)
  case atStart => exact ⟨0, R, Nat.zero_le _, rfl, hR, HM, hB4⟩
  case round =>
    clear hB4 HM hR
    obtain ⟨k, R, hk, rfl, hR, HM, hB⟩ := hrel
    by_cases hlt : k < 4
    · obtain ⟨r, R', rfl⟩ : ∃ r R', R = r :: R' := by
        match R, hR with
        | [], h => simp at h; omega
        | r :: R', _ => exact ⟨r, R', rfl⟩
      have hc := MB.cell HM.out
      have hf : wr.frozen? ⟨g, l.length + k, none⟩ = false := Blk.frozen HM.out _
      have HM2 := Lib.hid (MB.set HM.out)
      have hB2 := hB.setCell (p := ⟨g, l.length + k, none⟩) hwg (.int .i64 (-77))
      obtain ⟨ix, hix⟩ : ∃ ix, l.length + k = ix := ⟨_, rfl⟩
      have HIX := Lib.hid hix
      rw [hix] at hc hf HM2 hB2 ⊢
      have hil : (ix : Int) < (l.length : Int) + 4 := by omega
      have hil2 : ix < l.length + 4 := by omega
      have hwi : IntKind.i64.wrap ((ix : Int) + 1) = (ix : Int) + 1 := IntWalk.i64_in _ (by omega)
      clear hix
      go_wp2
      go_roundw
      case rel => exact ⟨k + 1, R', by omega, by have := HIX.out; subst this; congr 1, by simp at hR; omega, HM2, hB2⟩
      case measure => simp [intOf]; omega
    · obtain rfl : k = 4 := by omega
      obtain rfl : R = [] := List.eq_nil_of_length_eq_zero (by omega)
      have hd : decide (((l.length + 4 : Nat) : Int) < (l.length : Int) + 4) = false := decide_eq_false (by omega)
      obtain ⟨kp, hpt⟩ := point_any n l
      obtain ⟨kr, hrt⟩ := rpoint_any n l
      obtain ⟨pa, pe, hps⟩ : ∃ pa pe, pS n l = (pa, pe) := ⟨_, _, rfl⟩
      rw [hps] at hpt hrt
      have HPT := Lib.hid (PVotesConfigs.votes_Point.calls kp n (some ⟨g, 0, none⟩) (l.length + 4) l pa pe wr (MB.C HM.out (by omega)) (by omega) hpt)
      clear hps hpt
      go_wp2_with fail
      refine HPT.out.mono ?_
      rintro e w5 ⟨rfl, hd5⟩
      have hg5 := Blk.lt HM.out
      have hB5 := hB.trans (hd5.below.mono hB.size)
      have HM5 := Lib.hid (MB.keep HM.out (hd5.below.block g hg5))
      have HRT := Lib.hid (PVotesNumbers.flotillaref04_Point.calls kr n A c l pa pe w5 (Kd.C_below HA.out hB5) hlc hrt)
      clear hd5 HPT HM hB hrt hd hR hg5
      go_wp2_with fail
      refine HRT.out.mono ?_
      rintro e w6 ⟨rfl, hd6⟩
      have hB6 := hB5.trans (hd6.below.mono hB5.size)
      have HM6 := Lib.hid (MB.keep HM5.out (hd6.below.block g (Blk.lt HM5.out)))
      clear hd6 HRT HM5 hB5
      go_wp2
      go_loopw [14, 15] (fun b i wx => ∃ k : Nat, k ≤ l.length + 4 ∧ i = .int .i64 k ∧ b = .bool true ∧ Hid (MB wx g l 4 []) ∧ Below w.heap.size w wx) (fun _ i _ => l.length + 4 - (intOf i).toNat)
      case atStart => exact ⟨0, Nat.zero_le _, rfl, rfl, HM6, hB6⟩
      case round =>
        clear HM6 hB6
        obtain ⟨k, hk, rfl, rfl, HM6, hB6⟩ := hrel
        by_cases hlt : k < l.length + 4
        · have d1 : decide ((k : Int) < (l.length : Int) + 4) = true := decide_eq_true (by omega)
          have hkb : (k : Int) < (l.length : Int) + 4 := by omega
          by_cases hlo : k < l.length
          · have d2 : decide (k < l.length) = true := decide_eq_true hlo
            have d3 : decide (l.length ≤ k) = false := decide_eq_false (by omega)
            obtain ⟨ad, ha, g0⟩ := Kd.at_int (Kd.C_below HA.out hB6) (k : Int) (by omega) (by omega)
            subst ha
            simp only [Int.toNat_natCast] at g0
            have hc := MB.lo HM6.out k hlo
            obtain ⟨v, hv⟩ : ∃ v, rd l (k : Int) = v := ⟨_, rfl⟩
            rw [hv] at g0 hc
            clear hv
            go_wp2
            go_quiet (fail)
            go_wp2
            go_roundw
            case rel => exact ⟨k + 1, by omega, by go_num, rfl, HM6.out, pw_below_drewN hB6 _⟩
            case measure => simp [intOf]; omega
          · have d2 : decide (k < l.length) = false := decide_eq_false hlo
            have d3 : decide (l.length ≤ k) = true := decide_eq_true (by omega)
            have hc := MB.hi HM6.out k hlo hlt
            go_wp2
            go_quiet (fail)
            go_wp2
            go_roundw
            case rel => exact ⟨k + 1, by omega, by go_num, rfl, HM6.out, pw_below_drewN hB6 _⟩
            case measure => simp [intOf]; omega
        · have d1 : decide ((k : Int) < (l.length : Int) + 4) = false := decide_eq_false (by omega)
          have d1' : decide (k < l.length + 4) = false := decide_eq_false hlt
          obtain ⟨r, hr1, hr2⟩ := prim_any n view
          have H1 := Lib.hid (fun W => PVotesConfigs.votes_Faults.calls n _ W (flt_any n))
          have H2 := Lib.hid (fun W => PVotesNumbers.flotillaref04_Faults.calls n _ W (rflt_any n))
          have H3 := Lib.hid (fun W => PVotesConfigs.votes_Majority.calls n _ W (maj_any n))
          have H4 := Lib.hid (fun W => PVotesNumbers.flotillaref04_Majority.calls n _ W (rmaj_f n))
          have H5 := Lib.hid (fun W => PVotesConfigs.votes_Primary.calls n view r W hr1)
          have H6 := Lib.hid (fun W => PVotesNumbers.flotillaref04_Primary.calls n view r W hr2)
          clear hr1 hr2 hlt hk
          go_wp2_with fail
          refine (H1.out _).mono ?_
          rintro e x1 ⟨rfl, q1⟩
          have B1 := hB6.trans (q1.below.mono hB6.size)
          go_wp2_with fail
          refine (H2.out _).mono ?_
          rintro e x2 ⟨rfl, q2⟩
          have B2 := B1.trans (q2.below.mono B1.size)
          go_wp2_with fail
          refine (H3.out _).mono ?_
          rintro e x3 ⟨rfl, q3⟩
          have B3 := B2.trans (q3.below.mono B2.size)
          go_wp2_with fail
          refine (H4.out _).mono ?_
          rintro e x4 ⟨rfl, q4⟩
          have B4 := B3.trans (q4.below.mono B3.size)
          go_wp2_with fail
          refine (H5.out _).mono ?_
          rintro e x5 ⟨rfl, q5⟩
          have B5 := B4.trans (q5.below.mono B4.size)
          go_wp2_with fail
          refine (H6.out _).mono ?_
          rintro e x6 ⟨rfl, q6⟩
          have B6 := B5.trans (q6.below.mono B5.size)
          go_wp2
          go_ret
          exact ⟨by simp, B6⟩
end Go.Proofs.Ytkgamiojoekegab.Vt
namespace Go.Proofs.Ytkgamiojoekegab.Vt
open Go.RowKit Go.Proofs.YtkgamiojoekegabW.PrintWords
theorem numbers_row (w : World) (a0 : Int) (_w0 : (Lit.int .i64 a0).wf = true) (a1 : Int) (w1 : (Lit.int .i64 a1).wf = true) (Ap : Option Addr) (cp : Nat) (ps : List Int) (hP : Kd.C Opn.kI w Ap ps.length ps) (h4 : ps.length ≤ cp) (h5 : cp ≤ 1048576) (_h6 : ∀ p ∈ ps, Opn.WfI p) :
    Calls Try.prog 7 #[.int .i64 a0, .int .i64 a1, .slice Ap ps.length cp] w fun e w' => e = .returned (.bool true) ∧ Below w.heap.size w w' :=
  numbers_walk a0 a1 w1 Ap cp ps w hP h4 (by omega)
end Go.Proofs.Ytkgamiojoekegab.Vt
namespace Go.Proofs.Ytkgamiojoekegab.bulks

theorem one_le {H : Type} (d : DataW H) : 1 ≤ Rows.uptoBulk d := by
  cases d with
  | lit l => cases l <;> simp [Rows.uptoBulk]
  | nil => simp [Rows.uptoBulk]
  | ptr d => simp [Rows.uptoBulk]
  | slice elems spare => simp [Rows.uptoBulk]
  | agg parts => simp [Rows.uptoBulk]
  | iface t d => simp [Rows.uptoBulk]
  | map entries => simp [Rows.uptoBulk]
  | held h => simp [Rows.uptoBulk]

/-- a part's bulk is at most the whole's -/
theorem part_le {H : Type} {d : DataW H} {l : List (DataW H)} (h : d ∈ l) : Rows.uptoBulk d ≤ Rows.uptoBulkAll l := by
  induction l with
  | nil => cases h
  | cons x r ih =>
    simp only [Rows.uptoBulkAll]
    cases List.mem_cons.1 h with
    | inl e => subst e; omega
    | inr e => have := ih e; omega

theorem append {H : Type} (l r : List (DataW H)) : Rows.uptoBulkAll (l ++ r) = Rows.uptoBulkAll l + Rows.uptoBulkAll r := by
  induction l with
  | nil => simp [Rows.uptoBulkAll]
  | cons x l ih => simp only [List.cons_append, Rows.uptoBulkAll, ih]; omega

/-- so many values at the most -/
theorem length_le {H : Type} (l : List (DataW H)) : l.length ≤ Rows.uptoBulkAll l := by
  induction l with
  | nil => simp [Rows.uptoBulkAll]
  | cons x r ih => have := one_le x; simp only [Rows.uptoBulkAll, List.length_cons]; omega

/-- a slice's places, and what they hold -/
theorem slice_le {H : Type} (elems spare : List (DataW H)) : elems.length + spare.length + 1 ≤ Rows.uptoBulk (.slice elems spare) := by
  have h1 := length_le elems
  have h2 := length_le spare
  simp only [Rows.uptoBulk]
  omega
theorem slice_elems {H : Type} (elems spare : List (DataW H)) : Rows.uptoBulkAll elems + 1 ≤ Rows.uptoBulk (.slice elems spare) := by
  simp only [Rows.uptoBulk]
  omega

/-- a string's letters -/
theorem string_eq {H : Type} (bytes : List UInt8) : Rows.uptoBulk (DataW.lit (H := H) (.string bytes)) = bytes.length + 1 := by
  simp [Rows.uptoBulk]

/-- THE BOUND, as the builder hands it over ('hk') -/
theorem bound {H : Type} {l : List (DataW H)} (hk : Rows.uptoSmall H l = true) : Rows.uptoBulkAll l ≤ 1048576 := by
  simpa [Rows.uptoSmall] using hk

/-- ROOM: a slice of n elements of b bytes, grown by append: below the 2^48 bytes that append, make and a Builder bear. Here n up to 2^21, b up to 4,096: put your own numbers. -/
theorem room {n b : Nat} (hn : n ≤ 2097152) (hb : b ≤ 4096) : (n + n / 4 + 192) * b ≤ 281474976710656 := by
  have h : (n + n / 4 + 192) * b ≤ 2621632 * 4096 := Nat.mul_le_mul (by omega) hb
  omega

end Go.Proofs.Ytkgamiojoekegab.bulks
namespace Go.Proofs.Ytkgamiojoekegab.votesNumbers
open Go.ChangeShapes Go.WideShapes Go.ChangeAt Go.RowKit
open Go.ChangeMaps (open_string shut_string)
set_option linter.unusedVariables false
theorem own : ownKnob Try.prog.godebug = none := by kernel_rfl
theorem laidOut : laidOutB Try.prog = true := by kernel_rfl
set_option maxRecDepth 100000 in
theorem lifted (os : Os) (started : os.Started) (H : Type) (enc : TypeId × Value → H) (F : Stop.Interp) :
    ReturnsInHanded {} Try.checked os 7 .any ((Rows.OpenSpec.upto Rows.votesNumbersSpec).pre6 enc Try.prog Try.f7 Rows.votesNumbersUptoRow.domain false) (((Rows.OpenSpec.upto Rows.votesNumbersSpec).at F).post enc Try.prog Try.f7 false true false false) := by
  refine returnsInHanded_of_cond (C := Try.checked) (s := (Rows.OpenSpec.upto Rows.votesNumbersSpec)) (k := Rows.uptoSmall) rfl own started (by kernel_rfl) Try.func7
    (OpenSpec.witness (enc := enc) (C := Try.checked) (s := (Rows.OpenSpec.upto Rows.votesNumbersSpec)) (k := Rows.uptoSmall) rfl false ⟨#[], #[.int .i64 0, .int .i64 0, .slice none 0 0], []⟩ 8 (by kernel_rfl) (by kernel_rfl) (by kernel_rfl)
      (x := ([.lit (.int .i64 0), .lit (.int .i64 0), .nil], [], [])) (by kernel_rfl) rfl (by kernel_rfl)) ?_
  intro W base args ds gs before hval0 hW _ hk _
  have hval : ∀ (j : Nat) t v, Try.f7.params[j]? = some t → args[j]? = some v → Value.okWide Try.prog W .any base t v := hval0
  have hW' := hW
  obtain ⟨p, q, hA0, hV, rfl, hfz, hnd⟩ := hW
  have hA : DataW.TrodAll enc Try.prog W 0 (fun _ => true) true Try.f7.params.toList args.toList ds p := hA0
  rw [Try.params7] at hA hval
  obtain ⟨v0, vs0, d0, ds0, p0, q0, hargs, rfl, rfl, h0, r0⟩ := trodAll_cons hA
  obtain ⟨v1, vs1, d1, ds1, p1, q1, rfl, rfl, rfl, h1, r1⟩ := trodAll_cons r0
  obtain ⟨v2, vs2, d2, ds2, p2, q2, rfl, rfl, rfl, h2, r2⟩ := trodAll_cons r1
  obtain ⟨rfl, rfl, rfl⟩ := trodAll_nil r2
  obtain rfl : args = #[v0, v1, v2] := by cases args; simp_all
  obtain ⟨rfl, rfl⟩ := trodVars_none hV
  obtain ⟨a0, rfl, rfl, rfl, w0⟩ := open_int Try.underlying3 (hval 0 3 v0 rfl rfl) h0
  obtain ⟨a1, rfl, rfl, rfl, w1⟩ := open_int Try.underlying3 (hval 1 3 v1 rfl rfl) h1
  have k2 := h2
  have lt2 : ∀ x ∈ p2, x.block < W.heap.size := by obtain ⟨m, hm⟩ := k2; exact DataW.trod_lt m _ _ _ hm
  obtain ⟨A2, len2, cap2, rfl⟩ := okWide_slice Try.underlying28 (hval 2 28 v2 rfl rfl)
  obtain ⟨l2, hl2, hC2, hlc2, hcm2, hwf2, hd2⟩ := Opn.slice_kd Opn.kI Opn.WfI 0 Try.underlying28 (by kernel_rfl) (Opn.elI (enc := enc) (W := W)) h2
  have hby2 : cap2 ≤ 1048576 := by
    rcases hd2 with ⟨_, hc, _⟩ | ⟨el, sp, he, hc⟩
    · rw [hc]; decide
    · have hB := bulks.bound hk
      have h1 := bulks.part_le (d := DataW.slice el sp) (l := _) (by rw [← he]; simp) |> fun h => Nat.le_trans h hB
      have h2 := bulks.slice_le el sp
      omega
  subst hl2
  clear hA0 hval0
  refine (Vt.numbers_row W a0 w0 a1 w1 A2 cap2 l2 hC2 hlc2 hby2 hwf2).mono fun e W' ⟨he, bel⟩ => ?_
  subst he
  exact ⟨_, rfl, _, _, _, [], _, [], hW', trodAll_mk1 (shut_bool Try.underlying4 _), (trodAll_cons_mk (shut_int Try.underlying3 w0) (trodAll_cons_mk (shut_int Try.underlying3 w1) (trodAll_cons_mk (Below.trod laidOut (by kernel_rfl) (of_decide_eq_true (by kernel_rfl)) k2 bel lt2) trodAll_mk0))), rfl, bel.frame _, fun h => by cases h⟩
theorem proved : Rows.VotesNumbersUptoSaid :=
  OpenClaim.holds_of_cond 7 Try.f7 rfl rfl rfl rfl rfl rfl rfl ⟨rfl, rfl, rfl, rfl, rfl⟩ rfl rfl rfl rfl rfl (by kernel_rfl) Try.func7 (by kernel_rfl)
    (of_decide_eq_true (by kernel_rfl)) (by unfold Func.isWrapper; first | (rw [if_pos (by decide +kernel)]; kernel_rfl) | (rw [if_neg (by decide +kernel)]; exact ⟨rfl, rfl⟩))
    (fun os started H enc _ F => lifted os started H enc F)
#print axioms proved
end Go.Proofs.Ytkgamiojoekegab.votesNumbers
namespace Go.Proofs.Ytkgamiojoekegab
/-- The row, under a short name, for the claim. -/
theorem votesNumbersUpto_holds : Rows.VotesNumbersUptoSaid := votesNumbers.proved
end Go.Proofs.Ytkgamiojoekegab
