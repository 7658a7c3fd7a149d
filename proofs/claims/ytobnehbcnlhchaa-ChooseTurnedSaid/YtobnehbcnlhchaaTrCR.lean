/- What choose.Ready computes, told over plain lists. Conditions: none. -/
import Derived.Test.YtobnehbcnlhchaaTrA
import Derived.Test.YtobnehbcnlhchaaTrK
namespace Go.Proofs.Ytobnehbcnlhchaa.Ch
open Go.RowKit Go.Proofs.YtobnehbcnlhchaaW.PrintWords Go.Proofs.Ytobnehbcnlhchaa.PChooseTurned

/-- who has been heard: me, and those of a list -/
def hd (me : Int) (pre : List S66) (j : Nat) : Bool := decide ((j : Int) = me) || pre.any (fun x => decide (x.f0 = (j : Int)))
def hdv (me : Int) (pre : List S66) : Array Value := ((List.range 7).map fun j => Value.bool (hd me pre j)).toArray
theorem hdv_get (me : Int) (pre : List S66) (j : Nat) (hj : j < 7) : (hdv me pre)[j]? = some (.bool (hd me pre j)) := by
  simp [hdv, hj]
theorem hd_snoc (me : Int) (pre : List S66) (x : S66) (j : Nat) : hd me (pre ++ [x]) j = (hd me pre j || decide (x.f0 = (j : Int))) := by
  simp [hd, List.any_append, Bool.or_assoc]
theorem hdv_snoc (me : Int) (pre : List S66) (x : S66) (k : Nat) (hk : k < 7) (hx : x.f0 = (k : Int)) : (hdv me pre).setIfInBounds k (.bool true) = hdv me (pre ++ [x]) := by
  apply Array.ext_getElem?
  intro j
  rw [Array.getElem?_setIfInBounds]
  by_cases hj : j < 7
  · rw [hdv_get me pre j hj, hdv_get me (pre ++ [x]) j hj, hd_snoc]
    by_cases e : k = j
    · subst e
      rw [if_pos rfl, if_pos (by simp [hdv]; omega)]
      simp [hx]
    · rw [if_neg e]
      have : decide (x.f0 = (j : Int)) = false := by simp; omega
      rw [this, Bool.or_false]
  · have e : ¬ k = j := by omega
    rw [if_neg e]
    simp [hdv, hj]
theorem hdv_me (me : Int) (k : Nat) (hk : k < 7) (h : (k : Int) = me) : (#[Value.bool false, .bool false, .bool false, .bool false, .bool false, .bool false, .bool false] : Array Value).setIfInBounds k (.bool true) = hdv me [] := by
  subst h
  have : k = 0 ∨ k = 1 ∨ k = 2 ∨ k = 3 ∨ k = 4 ∨ k = 5 ∨ k = 6 := by omega
  rcases this with rfl | rfl | rfl | rfl | rfl | rfl | rfl <;> rfl

/-- a witness may stand behind those that were heard -/
def fresh (n me : Int) (pre : List S66) (x : S66) : Bool := decide (0 ≤ x.f0) && decide (x.f0 < n) && !hd me pre x.f0.toNat
/-- all of a list may stand behind those that were heard -/
def allFresh (n me : Int) (pre : List S66) : List S66 → Bool
  | [] => true
  | x :: r => fresh n me pre x && allFresh n me (pre ++ [x]) r

/-- the first of the greatest views, looked for from place i on, the best so far at b -/
def maxW (l : List S66) (i b : Nat) : Nat → Nat
  | 0 => b
  | k + 1 => maxW l (i + 1) (if (rd_T66 l b).f1 < (rd_T66 l i).f1 then i else b) k
def latest (l : List S66) : Int := (rd_T66 l (maxW l 0 0 l.length)).f1

theorem maxW_lt (l : List S66) : ∀ k i b, i + k ≤ l.length → b < l.length → maxW l i b k < l.length
  | 0, _, _, _, h => h
  | k + 1, i, b, h, hb => maxW_lt l k (i + 1) _ (by omega) (by split <;> omega)

/-- the first place from i on of the primary of view u who has the state -/
def prim (n u : Int) (x : S66) : Bool := x.f0 == u % n && (x.f1 == u && x.f2)
def findP (n u : Int) (i : Nat) : List S66 → Int × Bool × Int
  | [] => (0, false, 0)
  | x :: r => if prim n u x then ((i : Int), true, 0) else findP n u (i + 1) r

def sized (n m : Int) : Bool := (n == 3 || n == 5 || n == 7) && decide (1 ≤ m) && decide (m ≤ n)
def readyS (n me floor : Int) (l : List S66) : Int × Bool × Int :=
  if !sized n l.length then (0, false, 120)
  else if !(decide (0 ≤ me) && decide (me < n)) || !allFresh n me [] l then (0, false, 121)
  else if (l.length : Int) < (n - 1) / 2 + 1 ∨ latest l < 0 ∨ latest l < floor then (0, false, 0)
  else findP n (latest l) 0 l

def tup (p : Int × Bool × Int) : Ending := .returned (.tuple #[.int .i64 p.1, .bool p.2.1, .int .i64 p.2.2])
def RPost (n me floor : Int) (l : List S66) (e : Ending) : Prop := e = tup (readyS n me floor l)

theorem rd_at (l : List S66) (k : Nat) (h : k < l.length) : rd_T66 l (k : Int) = l[k] := by
  simp [rd_T66, List.getD, h]
theorem drop_at (l : List S66) (k : Nat) (h : k < l.length) : l.drop k = rd_T66 l (k : Int) :: l.drop (k + 1) := by
  rw [rd_at l k h]; exact List.drop_eq_getElem_cons h
theorem take_at (l : List S66) (k : Nat) (h : k < l.length) : l.take (k + 1) = l.take k ++ [rd_T66 l (k : Int)] := by
  rw [rd_at l k h, List.take_succ_eq_append_getElem h]
/-- one more is taken up -/
theorem af_yes (n me : Int) (l : List S66) (k : Nat) (h : k < l.length) (hf : fresh n me (l.take k) (rd_T66 l (k : Int)) = true) (ha : allFresh n me (l.take k) (l.drop k) = allFresh n me [] l) :
    allFresh n me (l.take (k + 1)) (l.drop (k + 1)) = allFresh n me [] l := by
  rw [drop_at l k h, allFresh, hf, Bool.true_and] at ha
  rw [take_at l k h, ha]
theorem af_no (n me : Int) (l : List S66) (k : Nat) (h : k < l.length) (hf : fresh n me (l.take k) (rd_T66 l (k : Int)) = false) (ha : allFresh n me (l.take k) (l.drop k) = allFresh n me [] l) : allFresh n me [] l = false := by
  rw [drop_at l k h, allFresh, hf, Bool.false_and] at ha
  exact ha.symm
theorem af_end (n me : Int) (l : List S66) (ha : allFresh n me (l.take l.length) (l.drop l.length) = allFresh n me [] l) : allFresh n me [] l = true := by
  rw [List.drop_length] at ha
  exact ha.symm
theorem ready_121 (n me floor : Int) (l : List S66) (hs : sized n l.length = true) (ha : allFresh n me [] l = false) : readyS n me floor l = (0, false, 121) := by
  simp [readyS, hs, ha]
theorem ready_few (n me floor : Int) (l : List S66) (hs : sized n l.length = true) (h0 : 0 ≤ me) (h1 : me < n) (ha : allFresh n me [] l = true) (h : (l.length : Int) < (n - 1) / 2 + 1 ∨ latest l < 0 ∨ latest l < floor) : readyS n me floor l = (0, false, 0) := by
  simp [readyS, hs, ha, h0, h1, h]
theorem ready_find (n me floor : Int) (l : List S66) (hs : sized n l.length = true) (h0 : 0 ≤ me) (h1 : me < n) (ha : allFresh n me [] l = true) (h : ¬ ((l.length : Int) < (n - 1) / 2 + 1 ∨ latest l < 0 ∨ latest l < floor)) : readyS n me floor l = findP n (latest l) 0 l := by
  simp [readyS, hs, ha, h0, h1, h]
theorem find_yes (n u : Int) (l : List S66) (k : Nat) (h : k < l.length) (hp : prim n u (rd_T66 l (k : Int)) = true) : findP n u k (l.drop k) = ((k : Int), true, 0) := by
  rw [drop_at l k h, findP, if_pos hp]
theorem find_no (n u : Int) (l : List S66) (k : Nat) (h : k < l.length) (hp : prim n u (rd_T66 l (k : Int)) = false) : findP n u k (l.drop k) = findP n u (k + 1) (l.drop (k + 1)) := by
  rw [drop_at l k h, findP, if_neg (by simp [hp])]
theorem find_end (n u : Int) (l : List S66) : findP n u l.length (l.drop l.length) = (0, false, 0) := by
  rw [List.drop_length, findP]

end Go.Proofs.Ytobnehbcnlhchaa.Ch
