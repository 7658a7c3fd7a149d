/- Two majorities meet; views that follow one another have unlike primaries: the plain law. No program here. Conditions: none. -/
import Derived.Test.YtkgamiojoekegabVtH
namespace Go.Proofs.Ytkgamiojoekegab.Vt
open Go.RowKit Go.Proofs.YtkgamiojoekegabW.PrintWords Go.Proofs.Ytkgamiojoekegab.PVotesConfigs
set_option linter.unusedVariables false
/-- who is marked behind k steps of s from p on -/
def mkd (n p s : Nat) : Nat → List Bool
  | 0 => List.replicate n false
  | k + 1 => (mkd n p s k).set ((p + k * s) % n) true
theorem mkd_len (n p s : Nat) : ∀ k, (mkd n p s k).length = n
  | 0 => by simp [mkd]
  | k + 1 => by rw [mkd, List.length_set]; exact mkd_len n p s k
/-- is one marked in both among the first k? -/
def meets (a b : List Bool) : Nat → Bool
  | 0 => false
  | k + 1 => meets a b k || (a.getD k false && b.getD k false)
theorem meet3 : ∀ p < 3, ∀ s < 2, ∀ p' < 3, ∀ s' < 2, meets (mkd 3 p (1 + s) 2) (mkd 3 p' (1 + s') 2) 3 = true := by decide +kernel
theorem meet5 : ∀ p < 5, ∀ s < 4, ∀ p' < 5, ∀ s' < 4, meets (mkd 5 p (1 + s) 3) (mkd 5 p' (1 + s') 3) 5 = true := by decide +kernel
theorem meet7 : ∀ p < 7, ∀ s < 6, ∀ p' < 7, ∀ s' < 6, meets (mkd 7 p (1 + s) 4) (mkd 7 p' (1 + s') 4) 7 = true := by decide +kernel
theorem meet_q (q n : Nat) (hq : q < 3) (hn : n = 3 + 2 * q) (p s p' s' : Nat) (h1 : p < n) (h2 : s < n - 1) (h3 : p' < n) (h4 : s' < n - 1) : meets (mkd n p (1 + s) (q + 2)) (mkd n p' (1 + s') (q + 2)) n = true := by
  subst hn
  rcases (by omega : q = 0 ∨ q = 1 ∨ q = 2) with rfl | rfl | rfl
  · exact meet3 p h1 s h2 p' h3 s' h4
  · exact meet5 p h1 s h2 p' h3 s' h4
  · exact meet7 p h1 s h2 p' h3 s' h4
theorem led3 : ∀ r < 3, ∀ k < 3, (mkd 3 r 1 k)[(r + k) % 3]? = some false := by decide +kernel
theorem led5 : ∀ r < 5, ∀ k < 5, (mkd 5 r 1 k)[(r + k) % 5]? = some false := by decide +kernel
theorem led7 : ∀ r < 7, ∀ k < 7, (mkd 7 r 1 k)[(r + k) % 7]? = some false := by decide +kernel
theorem led_q (q n : Nat) (hq : q < 3) (hn : n = 3 + 2 * q) (r k : Nat) (h1 : r < n) (h2 : k < n) : (mkd n r 1 k)[(r + k) % n]? = some false := by
  subst hn
  rcases (by omega : q = 0 ∨ q = 1 ∨ q = 2) with rfl | rfl | rfl
  · exact led3 r h1 k h2
  · exact led5 r h1 k h2
  · exact led7 r h1 k h2
theorem flt_q (q : Nat) (h : q < 3) : votes_Faults.f (3 + 2 * (q : Int)) = some ((q : Int) + 1) := by
  rcases (by omega : q = 0 ∨ q = 1 ∨ q = 2) with rfl | rfl | rfl <;> kernel_rfl
theorem fl_q (q : Nat) (h : q < 3) : fl (3 + 2 * (q : Int)) = true := by
  rcases (by omega : q = 0 ∨ q = 1 ∨ q = 2) with rfl | rfl | rfl <;> rfl
theorem prim_q (q : Nat) (h : q < 3) (v : Nat) : votes_Primary.f (3 + 2 * (q : Int)) (v : Int) = some (((v % (3 + 2 * q) : Nat)) : Int) := by
  unfold votes_Primary.f
  rw [fl_f, Option.bind_some, if_pos (fl_q q h), if_neg (by omega), if_neg (by omega)]
  congr 1
/-- block g holds just these truths -/
def LB (w : World) (g : Nat) (l : List Bool) : Prop := w.heap[g]? = some (.cells (l.map Value.bool).toArray 4 (0, 0))
theorem LB.lt {w : World} {g : Nat} {l : List Bool} (h : LB w g l) : g < w.heap.size := Blk.lt h
theorem LB.keep {w w' : World} {g : Nat} {l : List Bool} (h : LB w g l) (hb : w'.heap[g]? = w.heap[g]?) : LB w' g l := hb.trans h
theorem LB.cell {w : World} {g : Nat} {l : List Bool} (h : LB w g l) (k : Nat) (hk : k < l.length) : w.cell? ⟨g, k, none⟩ = some (.bool (l.getD k false)) := by
  rw [Blk.cell h]
  simp [hk]
theorem LB.set {w : World} {g : Nat} {l : List Bool} (h : LB w g l) (k : Nat) (v : Bool) : LB (w.setCell ⟨g, k, none⟩ (.bool v)) g (l.set k v) :=
  (Blk.set h k (.bool v)).trans (by simp [List.map_set])
theorem LB.far {w : World} {g g' : Nat} {l : List Bool} (h : LB w g l) (hne : g' ≠ g) (k : Nat) (v : Value) : LB (w.setCell ⟨g', k, none⟩ v) g l :=
  (Below.heap_setCell w ⟨g', k, none⟩ v g (fun e => hne e.symm)).trans h
theorem info4 : ∃ i, Try.prog.info? 4 = some i ∧ i.zero = some (.bool false) ∧ i.size = 1 ∧ i.bytes = 1 := info_parts (by kernel_rfl)
set_option maxRecDepth 100000 in
theorem makeB {w : World} {ops : Array Oper} {rest : List Oper} {o : Oper} {a : Act} {Q : Exit → Act → World → Prop} (hgd : o.guard = none) (l c : Operand) (ho : o.op = Op.makeSlice 61 l c)
    (n : Nat) (hn : n = 3 ∨ n = 5 ∨ n = 7) (hl : a.eval l = .int .i64 (n : Int)) (hc : a.eval c = .int .i64 (n : Int))
    (h : ∀ w', LB w' w.heap.size (List.replicate n false) → w.heap.size < w'.heap.size → Below w.heap.size w w' → wpList Try.prog ops Q rest (a.put o.dst (.slice (some ⟨w.heap.size, 0, none⟩) n n)) w') : wpList Try.prog ops Q (o :: rest) a w := by
  obtain ⟨i, hi, hz, h1, h2⟩ := info4
  refine wpList_make_full w hgd l c 61 ho w.heap.size 4 i _ 1 Try.underlying61 hi hz h1 .i64 .i64 _ _ n hl hc rfl rfl (by rw [h2]; omega) (by unfold maxLen; omega) (Nat.le_refl _) ?_
  intro w' hown hg
  have hLB : LB w' w.heap.size (List.replicate n false) := by
    have hown2 := hown.2
    generalize hgs : w.heap.size = gs at hown2 ⊢
    rcases hown2 with ⟨h0, _⟩ | ⟨g', cap', cur, e, _, hh, _, _, hsz, htk⟩
    · cases h0
    · injection e with e1 e2 e3
      injection e1 with e1
      injection e1 with e1
      subst e1 e3
      show _ = _
      rw [hh]
      congr 2
      apply Array.toList_inj.1
      rw [List.take_of_length_le (by rw [Array.length_toList, hsz]; exact Nat.le_refl _)] at htk
      rw [htk]
      rcases hn with rfl | rfl | rfl <;> kernel_rfl
  exact h w' hLB hLB.lt ((Below.refl _ _).grown hg (Nat.le_refl _) (by simp))
end Go.Proofs.Ytkgamiojoekegab.Vt
