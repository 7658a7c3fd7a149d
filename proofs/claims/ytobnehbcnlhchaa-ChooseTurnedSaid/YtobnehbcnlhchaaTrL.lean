/- ChooseTurned, the plain law: neither Best nor Ready hangs in the order of a list. No program here. Conditions: none. -/
import Derived.Test.YtobnehbcnlhchaaTrBP
import Derived.Test.YtobnehbcnlhchaaTrCP
namespace Go.Proofs.Ytobnehbcnlhchaa.Tu
open Go.RowKit Go.Proofs.YtobnehbcnlhchaaW.PrintWords Go.Proofs.Ytobnehbcnlhchaa.PChooseTurned
set_option linter.unusedVariables false
theorem af_iff (n : Int) : ∀ (l pre : List S62), Be.allFresh n pre l = true → (∀ x ∈ l, 0 ≤ x.f0 ∧ x.f0 < n) ∧ (l.map (·.f0)).Nodup ∧ ∀ x ∈ l, ∀ y ∈ pre, y.f0 ≠ x.f0
  | [], pre, _ => ⟨by simp, by simp, by simp⟩
  | x :: r, pre, h => by
    rw [Be.allFresh, Bool.and_eq_true] at h
    obtain ⟨h1, h2⟩ := h
    obtain ⟨a1, a2⟩ := (Be.fresh_iff n pre x).1 h1
    obtain ⟨b1, b2, b3⟩ := af_iff n r (pre ++ [x]) h2
    refine ⟨fun z hz => ?_, ?_, fun z hz y hy => ?_⟩
    · rcases List.mem_cons.1 hz with rfl | hz
      · exact a1
      · exact b1 z hz
    · rw [List.map_cons, List.nodup_cons]
      refine ⟨fun hm => ?_, b2⟩
      obtain ⟨z, hz, e⟩ := List.mem_map.1 hm
      exact b3 z hz x (by simp) e.symm
    · rcases List.mem_cons.1 hz with rfl | hz
      · exact a2 y hy
      · exact b3 z hz y (by simp [hy])
theorem af_perm (n : Int) {l l' : List S62} (hp : l.Perm l') (h : Be.allFresh n [] l = true) : Be.allFresh n [] l' = true := by
  obtain ⟨a1, a2, _⟩ := af_iff n l [] h
  exact Be.af_of n l' [] (fun x hx => a1 x (hp.mem_iff.2 hx)) (by rw [List.nil_append]; exact (hp.map (·.f0)).nodup_iff.1 a2)
theorem rd_mem (l : List S62) (k : Nat) (h : k < l.length) : rd_T62 l (k : Int) ∈ l := by rw [Be.rd_at l k h]; exact List.getElem_mem h
theorem of_mem {l : List S62} {x : S62} (h : x ∈ l) : ∃ j : Nat, j < l.length ∧ rd_T62 l (j : Int) = x := by
  obtain ⟨j, hj, e⟩ := List.getElem_of_mem h
  exact ⟨j, hj, by rw [Be.rd_at l j hj, e]⟩
theorem bestAt_lt (l : List S62) (h : 0 < l.length) : Be.bestAt l < l.length := Be.fst_lt Be.better l l.length 0 0 (by omega) h
theorem comAt_lt (l : List S62) (h : 0 < l.length) : Be.comAt l < l.length := Be.fst_lt Be.moreC l l.length 0 0 (by omega) h
theorem com_le {l l' : List S62} (hp : l.Perm l') (h : 0 < l.length) : (rd_T62 l (Be.comAt l : Int)).f3 ≤ (rd_T62 l' (Be.comAt l' : Int)).f3 := by
  obtain ⟨j, hj, e⟩ := of_mem (hp.mem_iff.1 (rd_mem l _ (comAt_lt l h)))
  rw [← e]
  exact Be.com_max l' j hj
theorem best_eq {l l' : List S62} (hp : l.Perm l') (h : 0 < l.length) : Be.better (rd_T62 l (Be.bestAt l : Int)) (rd_T62 l' (Be.bestAt l' : Int)) = false := by
  obtain ⟨j, hj, e⟩ := of_mem (hp.mem_iff.1 (rd_mem l _ (bestAt_lt l h)))
  rw [← e]
  exact Be.best_max l' j hj
/-- Best of the same ballots in another order -/
theorem best_perm (n : Int) {l l' : List S62} (hp : l.Perm l') (h : 0 < l.length) :
    (Be.bestS n l').2.2 = (Be.bestS n l).2.2 ∧ (Be.bestS n l').2.1 = (Be.bestS n l).2.1 ∧ ((Be.bestS n l).2.2 = 0 → ∃ i j : Nat, i < l.length ∧ j < l'.length ∧ (Be.bestS n l).1 = (i : Int) ∧ (Be.bestS n l').1 = (j : Int) ∧ (rd_T62 l (i : Int)).f1 = (rd_T62 l' (j : Int)).f1 ∧ (rd_T62 l (i : Int)).f2 = (rd_T62 l' (j : Int)).f2) := by
  have hlen := hp.length_eq
  cases hs : Be.sized n l.length with
  | false => rw [Be.best_120 n l hs, Be.best_120 n l' (by rw [← hlen]; exact hs)]; exact ⟨rfl, rfl, fun h => by simp at h⟩
  | true =>
    cases ha : Be.allFresh n [] l with
    | false =>
      have ha' : Be.allFresh n [] l' = false := by
        cases q : Be.allFresh n [] l' with
        | false => rfl
        | true => rw [af_perm n hp.symm q] at ha; exact absurd ha (by simp)
      rw [Be.best_121 n l hs ha, Be.best_121 n l' (by rw [← hlen]; exact hs) ha']
      exact ⟨rfl, rfl, fun h => by simp at h⟩
    | true =>
      rw [Be.best_ok n l hs ha, Be.best_ok n l' (by rw [← hlen]; exact hs) (af_perm n hp ha)]
      have h' : 0 < l'.length := by omega
      have c1 := com_le hp h
      have c2 := com_le hp.symm h'
      have b1 := best_eq hp h
      have b2 := best_eq hp.symm h'
      refine ⟨rfl, Int.le_antisymm c2 c1, fun _ => ⟨_, _, bestAt_lt l h, bestAt_lt l' h', rfl, rfl, ?_⟩⟩
      simp [Be.better] at b1 b2
      omega
theorem rdW_mem (l : List S66) (k : Nat) (h : k < l.length) : rd_T66 l (k : Int) ∈ l := by rw [Ch.rd_at l k h]; exact List.getElem_mem h
/-- Ready of the same witnesses in another order -/
theorem ready_perm (n me floor : Int) {l l' : List S66} (hp : l.Perm l') (h : 0 < l.length) :
    (Ch.readyS n me floor l').2.1 = (Ch.readyS n me floor l).2.1 ∧ (Ch.readyS n me floor l').2.2 = (Ch.readyS n me floor l).2.2 ∧ ((Ch.readyS n me floor l).2.1 = true → ∃ i j : Nat, i < l.length ∧ j < l'.length ∧ (Ch.readyS n me floor l).1 = (i : Int) ∧ (Ch.readyS n me floor l').1 = (j : Int) ∧ rd_T66 l (i : Int) = rd_T66 l' (j : Int)) := by
  have hlen := hp.length_eq
  cases hs : Ch.sized n l.length with
  | false =>
    have e1 : Ch.readyS n me floor l = (0, false, 120) := by unfold Ch.readyS; rw [if_pos (by simp [hs])]
    have e2 : Ch.readyS n me floor l' = (0, false, 120) := by unfold Ch.readyS; rw [if_pos (by rw [← hlen]; simp [hs])]
    rw [e1, e2]; exact ⟨rfl, rfl, fun h => by simp at h⟩
  | true =>
    have hs' : Ch.sized n l'.length = true := by rw [← hlen]; exact hs
    by_cases hm : 0 ≤ me ∧ me < n
    · cases ha : Ch.allFresh n me [] l with
      | false =>
        have ha' : Ch.allFresh n me [] l' = false := by
          cases q : Ch.allFresh n me [] l' with
          | false => rfl
          | true =>
            rw [(Ch.allFresh_apart n me hm.1 l).2 (Ch.apart_perm n me l' l hp.symm ((Ch.allFresh_apart n me hm.1 l').1 q))] at ha
            exact absurd ha (by simp)
        rw [Ch.ready_121 n me floor l hs ha, Ch.ready_121 n me floor l' hs' ha']
        exact ⟨rfl, rfl, fun h => by simp at h⟩
      | true =>
        have hap := (Ch.allFresh_apart n me hm.1 l).1 ha
        have hap' := Ch.apart_perm n me l l' hp hap
        have ha' := (Ch.allFresh_apart n me hm.1 l').2 hap'
        have hlat := Ch.latest_perm l l' h hp
        by_cases hf : (l.length : Int) < (n - 1) / 2 + 1 ∨ Ch.latest l < 0 ∨ Ch.latest l < floor
        · rw [Ch.ready_few n me floor l hs hm.1 hm.2 ha hf, Ch.ready_few n me floor l' hs' hm.1 hm.2 ha' (by rw [hlat, ← hlen]; exact hf)]
          exact ⟨rfl, rfl, fun h => by simp at h⟩
        · rw [Ch.ready_find n me floor l hs hm.1 hm.2 ha hf, Ch.ready_find n me floor l' hs' hm.1 hm.2 ha' (by rw [hlat, ← hlen]; exact hf), hlat]
          by_cases hx : ∃ x ∈ l, Ch.prim n (Ch.latest l) x = true
          · obtain ⟨x, hx, hpx⟩ := hx
            obtain ⟨i, hi, e1, p1⟩ := Ch.findP_some n (Ch.latest l) l x hx hpx
            obtain ⟨j, hj, e2, p2⟩ := Ch.findP_some n (Ch.latest l) l' x (hp.mem_iff.1 hx) hpx
            rw [e1, e2]
            exact ⟨rfl, rfl, fun _ => ⟨i, j, hi, hj, rfl, rfl, Ch.prim_unique n _ me l hap _ _ (rdW_mem l i hi) (hp.mem_iff.2 (rdW_mem l' j hj)) p1 p2⟩⟩
          · have hx1 : ∀ x ∈ l, Ch.prim n (Ch.latest l) x = false := fun x hm => by
              cases q : Ch.prim n (Ch.latest l) x with
              | false => rfl
              | true => exact absurd ⟨x, hm, q⟩ hx
            rw [Ch.findP_none n _ l 0 hx1, Ch.findP_none n _ l' 0 (fun x hm => hx1 x (hp.mem_iff.2 hm))]
            exact ⟨rfl, rfl, fun h => by simp at h⟩
    · have e1 : Ch.readyS n me floor l = (0, false, 121) := by
        unfold Ch.readyS
        rw [if_neg (by simp [hs]), if_pos (by simp; omega)]
      have e2 : Ch.readyS n me floor l' = (0, false, 121) := by
        unfold Ch.readyS
        rw [if_neg (by simp [hs']), if_pos (by simp; omega)]
      rw [e1, e2]; exact ⟨rfl, rfl, fun h => by simp at h⟩
/-- Ready of a list that is too small or too great -/
theorem ready_none (n me floor : Int) (l : List S66) (h : l.length = 0 ∨ 7 < l.length) : Ch.readyS n me floor l = (0, false, 120) := by
  unfold Ch.readyS
  rw [if_pos]
  simp [Ch.sized]
  omega
end Go.Proofs.Ytobnehbcnlhchaa.Tu
