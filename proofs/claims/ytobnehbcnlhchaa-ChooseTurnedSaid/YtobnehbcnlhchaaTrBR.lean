/- What choose.Best computes, told over plain lists. Conditions: none. -/
import Derived.Test.YtobnehbcnlhchaaTrA
import Derived.Test.YtobnehbcnlhchaaTrK
namespace Go.Proofs.Ytobnehbcnlhchaa.Be
open Go.RowKit Go.Proofs.YtobnehbcnlhchaaW.PrintWords Go.Proofs.Ytobnehbcnlhchaa.PChooseTurned
set_option linter.unusedVariables false

/-- who has been heard: those of a list -/
def hd (pre : List S62) (j : Nat) : Bool := pre.any (fun x => decide (x.f0 = (j : Int)))
def hdv (pre : List S62) : Array Value := ((List.range 7).map fun j => Value.bool (hd pre j)).toArray
theorem hdv_get (pre : List S62) (j : Nat) (hj : j < 7) : (hdv pre)[j]? = some (.bool (hd pre j)) := by
  simp [hdv, hj]
theorem hd_snoc (pre : List S62) (x : S62) (j : Nat) : hd (pre ++ [x]) j = (hd pre j || decide (x.f0 = (j : Int))) := by
  simp [hd, List.any_append]
theorem hdv_snoc (pre : List S62) (x : S62) (k : Nat) (hk : k < 7) (hx : x.f0 = (k : Int)) : (hdv pre).setIfInBounds k (.bool true) = hdv (pre ++ [x]) := by
  apply Array.ext_getElem?
  intro j
  rw [Array.getElem?_setIfInBounds]
  by_cases hj : j < 7
  · rw [hdv_get pre j hj, hdv_get (pre ++ [x]) j hj, hd_snoc]
    by_cases e : k = j
    · subst e
      rw [if_pos rfl, if_pos (by simp [hdv]; omega)]
      simp [hx]
    · rw [if_neg e]
      have : decide (x.f0 = (j : Int)) = false := by simp; omega
      rw [this, Bool.or_false]
  · have e : ¬ k = j := by omega
    rw [if_neg e]
    simp [hdv, hj]
theorem hdv_nil : (#[Value.bool false, .bool false, .bool false, .bool false, .bool false, .bool false, .bool false] : Array Value) = hdv [] := rfl

def fresh (n : Int) (pre : List S62) (x : S62) : Bool := decide (0 ≤ x.f0) && decide (x.f0 < n) && !hd pre x.f0.toNat
def allFresh (n : Int) (pre : List S62) : List S62 → Bool
  | [] => true
  | x :: r => fresh n pre x && allFresh n (pre ++ [x]) r

/-- is b's log better than a's? has b more committed? -/
def better (b a : S62) : Bool := decide (a.f1 < b.f1) || (b.f1 == a.f1 && decide (a.f2 < b.f2))
def moreC (b a : S62) : Bool := decide (a.f3 < b.f3)
/-- the first that none is ahead of, looked for from place i on, the best so far at b -/
def fst (gt : S62 → S62 → Bool) (l : List S62) (i b : Nat) : Nat → Nat
  | 0 => b
  | k + 1 => fst gt l (i + 1) (if gt (rd_T62 l i) (rd_T62 l b) = true then i else b) k
theorem fst_lt (gt : S62 → S62 → Bool) (l : List S62) : ∀ k i b, i + k ≤ l.length → b < l.length → fst gt l i b k < l.length
  | 0, _, _, _, h => h
  | k + 1, i, b, h, hb => fst_lt gt l k (i + 1) _ (by omega) (by split <;> omega)
def bestAt (l : List S62) : Nat := fst better l 0 0 l.length
def comAt (l : List S62) : Nat := fst moreC l 0 0 l.length
def sized (n m : Int) : Bool := (n == 3 || n == 5 || n == 7) && decide (1 ≤ m) && decide (m ≤ n)
def bestS (n : Int) (l : List S62) : Int × Int × Int :=
  if !sized n l.length then (0, 0, 120) else if !allFresh n [] l then (0, 0, 121) else ((bestAt l : Int), (rd_T62 l (comAt l : Int)).f3, 0)

def tup (p : Int × Int × Int) : Ending := .returned (.tuple #[.int .i64 p.1, .int .i64 p.2.1, .int .i64 p.2.2])

theorem rd_at (l : List S62) (k : Nat) (h : k < l.length) : rd_T62 l (k : Int) = l[k] := by
  simp [rd_T62, List.getD, h]
theorem drop_at (l : List S62) (k : Nat) (h : k < l.length) : l.drop k = rd_T62 l (k : Int) :: l.drop (k + 1) := by
  rw [rd_at l k h]; exact List.drop_eq_getElem_cons h
theorem take_at (l : List S62) (k : Nat) (h : k < l.length) : l.take (k + 1) = l.take k ++ [rd_T62 l (k : Int)] := by
  rw [rd_at l k h, List.take_succ_eq_append_getElem h]
theorem af_yes (n : Int) (l : List S62) (k : Nat) (h : k < l.length) (hf : fresh n (l.take k) (rd_T62 l (k : Int)) = true) (ha : allFresh n (l.take k) (l.drop k) = allFresh n [] l) :
    allFresh n (l.take (k + 1)) (l.drop (k + 1)) = allFresh n [] l := by
  rw [drop_at l k h, allFresh, hf, Bool.true_and] at ha
  rw [take_at l k h, ha]
theorem af_no (n : Int) (l : List S62) (k : Nat) (h : k < l.length) (hf : fresh n (l.take k) (rd_T62 l (k : Int)) = false) (ha : allFresh n (l.take k) (l.drop k) = allFresh n [] l) : allFresh n [] l = false := by
  rw [drop_at l k h, allFresh, hf, Bool.false_and] at ha
  exact ha.symm
theorem af_end (n : Int) (l : List S62) (ha : allFresh n (l.take l.length) (l.drop l.length) = allFresh n [] l) : allFresh n [] l = true := by
  rw [List.drop_length] at ha
  exact ha.symm
theorem best_121 (n : Int) (l : List S62) (hs : sized n l.length = true) (ha : allFresh n [] l = false) : bestS n l = (0, 0, 121) := by
  simp [bestS, hs, ha]
theorem best_ok (n : Int) (l : List S62) (hs : sized n l.length = true) (ha : allFresh n [] l = true) : bestS n l = ((bestAt l : Int), (rd_T62 l (comAt l : Int)).f3, 0) := by
  simp [bestS, hs, ha]
theorem best_120 (n : Int) (l : List S62) (hs : sized n l.length = false) : bestS n l = (0, 0, 120) := by
  simp [bestS, hs]
end Go.Proofs.Ytobnehbcnlhchaa.Be
