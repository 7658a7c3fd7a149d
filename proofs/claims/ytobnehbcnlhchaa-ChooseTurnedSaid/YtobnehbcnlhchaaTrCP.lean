/- Lists of witnesses: what Ready's answer hangs in. Conditions: none. -/
import Derived.Test.YtobnehbcnlhchaaTrCB
namespace Go.Proofs.Ytobnehbcnlhchaa.Ch
open Go.RowKit Go.Proofs.YtobnehbcnlhchaaW.PrintWords Go.Proofs.Ytobnehbcnlhchaa.PChooseTurned
set_option linter.unusedVariables false

/-- all lie in the fleet, none is me, no two are one -/
def Apart (n me : Int) (l : List S66) : Prop := (∀ x ∈ l, 0 ≤ x.f0 ∧ x.f0 < n ∧ x.f0 ≠ me) ∧ l.Pairwise (fun a b => a.f0 ≠ b.f0)

theorem fresh_iff (n me : Int) (pre : List S66) (x : S66) (h : 0 ≤ me) : fresh n me pre x = true ↔ (0 ≤ x.f0 ∧ x.f0 < n ∧ x.f0 ≠ me) ∧ ∀ y ∈ pre, y.f0 ≠ x.f0 := by
  simp only [fresh, hd, Bool.and_eq_true, decide_eq_true_eq, Bool.not_eq_true', Bool.or_eq_false_iff, decide_eq_false_iff_not, List.any_eq_false]
  constructor
  · rintro ⟨⟨h0, h1⟩, h2, h3⟩
    have e : (x.f0.toNat : Int) = x.f0 := Int.toNat_of_nonneg h0
    rw [e] at h2
    refine ⟨⟨h0, h1, h2⟩, fun y hy => ?_⟩
    have := h3 y hy
    rw [e] at this
    exact this
  · rintro ⟨⟨h0, h1, h2⟩, h3⟩
    have e : (x.f0.toNat : Int) = x.f0 := Int.toNat_of_nonneg h0
    rw [e]
    exact ⟨⟨h0, h1⟩, h2, h3⟩
theorem allFresh_iff (n me : Int) (h : 0 ≤ me) : ∀ (l pre : List S66), allFresh n me pre l = true ↔ Apart n me l ∧ ∀ x ∈ l, ∀ y ∈ pre, y.f0 ≠ x.f0
  | [], pre => by simp [allFresh, Apart]
  | x :: r, pre => by
    rw [allFresh, Bool.and_eq_true, fresh_iff n me pre x h, allFresh_iff n me h r (pre ++ [x])]
    unfold Apart
    constructor
    · rintro ⟨⟨hx, hp⟩, ⟨hr, hpw⟩, hc⟩
      refine ⟨⟨fun y hy => ?_, List.pairwise_cons.2 ⟨fun y hy => hc y hy x (by simp), hpw⟩⟩, fun y hy z hz => ?_⟩
      · rcases List.mem_cons.1 hy with rfl | hy
        · exact hx
        · exact hr y hy
      · rcases List.mem_cons.1 hy with rfl | hy
        · exact hp z hz
        · exact hc y hy z (by simp [hz])
    · rintro ⟨⟨ha, hpw⟩, hc⟩
      obtain ⟨h1, h2⟩ := List.pairwise_cons.1 hpw
      refine ⟨⟨ha x (by simp), fun y hy => hc x (by simp) y hy⟩, ⟨fun y hy => ha y (by simp [hy]), h2⟩, fun y hy z hz => ?_⟩
      rcases List.mem_append.1 hz with hz | hz
      · exact hc y (by simp [hy]) z hz
      · rw [List.mem_singleton] at hz; subst hz; exact h1 y hy
theorem allFresh_apart (n me : Int) (h : 0 ≤ me) (l : List S66) : allFresh n me [] l = true ↔ Apart n me l := by
  rw [allFresh_iff n me h]; simp

theorem pigeon : ∀ (n : Nat) (l : List Nat), l.Nodup → (∀ x ∈ l, x < n) → l.length ≤ n
  | 0, l, _, h => by
    cases l with
    | nil => simp
    | cons x r => exact absurd (h x (by simp)) (by omega)
  | n + 1, l, hn, h => by
    have h1 := pigeon n (l.filter (fun x => x != n)) (hn.filter _) (fun x hx => by
      obtain ⟨h2, h3⟩ := List.mem_filter.1 hx
      have := h x h2
      have : x ≠ n := by simpa using h3
      omega)
    have h2 : l.length = (l.filter (fun x => x != n)).length + (l.filter (fun x => x == n)).length := by
      clear hn h h1
      induction l with
      | nil => rfl
      | cons x r ih =>
        by_cases e : x = n
        · subst e; simp [ih]; omega
        · simp [e, ih]; omega
    have h3 : (l.filter (fun x => x == n)).length ≤ 1 := by
      have hq := hn.filter (fun x => x == n)
      have hall : ∀ x ∈ l.filter (fun x => x == n), x = n := fun x hx => by simpa using (List.mem_filter.1 hx).2
      match hl : l.filter (fun x => x == n), hq, hall with
      | [], _, _ => simp
      | [_], _, _ => simp
      | a :: b :: r, hq, hall =>
        have ha := hall a (by simp)
        have hb := hall b (by simp)
        have := (List.nodup_cons.1 hq).1
        exact absurd (by rw [ha, hb]; simp) this
    omega
theorem apart_length (n me : Int) (h0 : 0 ≤ me) (h1 : me < n) (l : List S66) (h : Apart n me l) : (l.length : Int) + 1 ≤ n := by
  have := pigeon n.toNat (me.toNat :: l.map (fun x => x.f0.toNat)) (by
    rw [List.nodup_cons]
    refine ⟨fun hm => ?_, ?_⟩
    · obtain ⟨x, hx, e⟩ := List.mem_map.1 hm
      have := h.1 x hx
      omega
    · refine List.pairwise_map.2 (List.Pairwise.imp_of_mem (fun {a b} ha hb hab => ?_) h.2)
      have h1 := h.1 a ha
      have h2 := h.1 b hb
      omega) (fun x hx => by
    rcases List.mem_cons.1 hx with rfl | hx
    · omega
    · obtain ⟨y, hy, rfl⟩ := List.mem_map.1 hx
      have := h.1 y hy
      omega)
  simp at this
  omega

theorem latest_mem (l : List S66) (h : 0 < l.length) : ∃ x ∈ l, x.f1 = latest l := by
  have hm := maxW_lt l l.length 0 0 (by omega) h
  refine ⟨_, List.getElem_mem hm, ?_⟩
  unfold latest
  rw [rd_at l _ hm]
theorem latest_le (l : List S66) (x : S66) (hx : x ∈ l) : x.f1 ≤ latest l := by
  obtain ⟨j, hj, rfl⟩ := List.mem_iff_getElem.1 hx
  have := latest_max l j hj
  rwa [rd_at l j hj] at this
theorem latest_of (l : List S66) (h : 0 < l.length) (u : Int) (h1 : ∀ x ∈ l, x.f1 ≤ u) (h2 : ∃ x ∈ l, x.f1 = u) : latest l = u := by
  obtain ⟨x, hx, e⟩ := h2
  obtain ⟨y, hy, e'⟩ := latest_mem l h
  have := latest_le l x hx
  have := h1 y hy
  omega
theorem latest_perm (l l' : List S66) (h : 0 < l.length) (hp : l.Perm l') : latest l' = latest l := by
  refine latest_of l' (by rw [← hp.length_eq]; exact h) _ (fun x hx => latest_le l x (hp.mem_iff.2 hx)) ?_
  obtain ⟨y, hy, e'⟩ := latest_mem l h
  exact ⟨y, hp.mem_iff.1 hy, e'⟩
theorem apart_perm (n me : Int) (l l' : List S66) (hp : l.Perm l') (h : Apart n me l) : Apart n me l' :=
  ⟨fun x hx => h.1 x (hp.mem_iff.2 hx), (hp.pairwise_iff (fun {a b} h => fun e => h e.symm)).1 h.2⟩

theorem findP_none (n u : Int) (l : List S66) (i : Nat) (h : ∀ x ∈ l, prim n u x = false) : findP n u i l = (0, false, 0) := by
  induction l generalizing i with
  | nil => rfl
  | cons x r ih => rw [findP, if_neg (by simp [h x (by simp)])]; exact ih _ (fun y hy => h y (by simp [hy]))
theorem findP_some (n u : Int) (l : List S66) (x : S66) (hx : x ∈ l) (hp : prim n u x = true) : ∃ k : Nat, k < l.length ∧ findP n u 0 l = ((k : Int), true, 0) ∧ prim n u (rd_T66 l (k : Int)) = true := by
  have key : ∀ (l : List S66) (i : Nat), x ∈ l → ∃ k : Nat, k < l.length ∧ findP n u i l = (((i + k : Nat) : Int), true, 0) ∧ prim n u (rd_T66 l (k : Int)) = true := by
    intro l
    induction l with
    | nil => intro i h; simp at h
    | cons y r ih =>
      intro i h
      by_cases hy : prim n u y = true
      · exact ⟨0, by simp, by rw [findP, if_pos hy]; rfl, by simpa [rd_T66] using hy⟩
      · have hr : x ∈ r := by
          rcases List.mem_cons.1 h with rfl | h
          · exact absurd hp hy
          · exact h
        obtain ⟨k, hk, he, hpk⟩ := ih (i + 1) hr
        refine ⟨k + 1, by simpa using hk, ?_, by simpa [rd_T66] using hpk⟩
        rw [findP, if_neg hy, he]
        congr 2
        omega
  obtain ⟨k, hk, he, hpk⟩ := key l 0 hx
  exact ⟨k, hk, by rw [he]; congr 2; omega, hpk⟩
theorem prim_unique (n u me : Int) (l : List S66) (h : Apart n me l) (x y : S66) (hx : x ∈ l) (hy : y ∈ l) (px : prim n u x = true) (py : prim n u y = true) : x = y := by
  simp only [prim, Bool.and_eq_true, beq_iff_eq] at px py
  have e : x.f0 = y.f0 := by rw [px.1, py.1]
  by_cases hxy : x = y
  · exact hxy
  · exfalso
    have hpw := h.2
    obtain ⟨i, hi, rfl⟩ := List.mem_iff_getElem.1 hx
    obtain ⟨j, hj, rfl⟩ := List.mem_iff_getElem.1 hy
    rcases Nat.lt_trichotomy i j with hij | hij | hij
    · exact (List.pairwise_iff_getElem.1 hpw i j hi hj hij) e
    · subst hij; exact hxy rfl
    · exact (List.pairwise_iff_getElem.1 hpw j i hj hi hij) e.symm

theorem sized_of (n : Int) (m m' : Nat) (h : sized n m = true) (h1 : 1 ≤ m') (h2 : (m' : Int) ≤ n) : sized n m' = true := by
  simp only [sized, Bool.and_eq_true, decide_eq_true_eq] at h ⊢
  exact ⟨⟨h.1.1, by omega⟩, h2⟩
theorem readyS_yes (n me floor u : Int) (l : List S66) (hs : sized n l.length = true) (h0 : 0 ≤ me) (h1 : me < n) (ha : Apart n me l) (hu : latest l = u) (hq : (n - 1) / 2 + 1 ≤ (l.length : Int)) (hu0 : 0 ≤ u) (hf : floor ≤ u) : readyS n me floor l = findP n u 0 l := by
  rw [ready_find n me floor l hs h0 h1 ((allFresh_apart n me h0 l).2 ha) (by rw [hu]; omega), hu]

/-- one witness more, of an older view -/
theorem more_ok (n me floor : Int) (l : List S66) (x : S66) (k at_ : Nat) (hT : (readyS n me floor l).2.1 = true) (hat : at_ < l.length) (he : (readyS n me floor l).1 = (at_ : Int))
    (hx0 : 0 ≤ x.f0) (hxn : x.f0 < n) (hxm : x.f0 ≠ me) (hxv : x.f1 < (rd_T66 l (at_ : Int)).f1) (hxl : ∀ y ∈ l, y.f0 ≠ x.f0) (hk : k ≤ l.length) :
    ∃ b : Nat, b < (l.take k ++ [x] ++ l.drop k).length ∧ readyS n me floor (l.take k ++ [x] ++ l.drop k) = ((b : Int), true, 0) ∧ rd_T66 (l.take k ++ [x] ++ l.drop k) (b : Int) = rd_T66 l (at_ : Int) := by
  obtain ⟨_, hs, hq, hu0, hf, h0, h1, hall, k', hk', he', hp⟩ := ready_true n me floor l hT
  have e : at_ = k' := by omega
  subst e
  have hA := (allFresh_apart n me h0 l).1 hall
  have hperm : (x :: l).Perm (l.take k ++ [x] ++ l.drop k) := by
    rw [List.append_assoc]
    have : (x :: (l.take k ++ l.drop k)).Perm (l.take k ++ x :: l.drop k) := List.perm_middle.symm
    rwa [List.take_append_drop] at this
  generalize hm : l.take k ++ [x] ++ l.drop k = more at hperm ⊢
  have hlen : more.length = l.length + 1 := by rw [← hperm.length_eq]; simp
  have hAx : Apart n me (x :: l) := ⟨fun y hy => by
    rcases List.mem_cons.1 hy with rfl | hy
    · exact ⟨hx0, hxn, hxm⟩
    · exact hA.1 y hy, List.pairwise_cons.2 ⟨fun y hy e => hxl y hy e.symm, hA.2⟩⟩
  have hAm := apart_perm n me _ _ hperm hAx
  have hl1 := apart_length n me h0 h1 more hAm
  have hprim : (rd_T66 l (at_ : Int)).f1 = latest l := by simp only [prim, Bool.and_eq_true, beq_iff_eq] at hp; exact hp.2.1
  have hmem : rd_T66 l (at_ : Int) ∈ l := by rw [rd_at l at_ hat]; exact List.getElem_mem hat
  have hlat : latest more = latest l := by
    refine latest_of more (by omega) _ (fun y hy => ?_) ⟨_, hperm.mem_iff.1 (List.mem_cons_of_mem _ hmem), hprim⟩
    rcases List.mem_cons.1 (hperm.mem_iff.2 hy) with rfl | hy
    · omega
    · exact latest_le l y hy
  have hsm : sized n more.length = true := sized_of n l.length more.length hs (by omega) (by omega)
  rw [readyS_yes n me floor (latest l) more hsm h0 h1 hAm hlat (by omega) hu0 hf]
  obtain ⟨b, hb, heb, hpb⟩ := findP_some n (latest l) more _ (hperm.mem_iff.1 (List.mem_cons_of_mem _ hmem)) hp
  refine ⟨b, hb, heb, ?_⟩
  exact prim_unique n (latest l) me more hAm _ _ (by rw [rd_at more b hb]; exact List.getElem_mem hb) (hperm.mem_iff.1 (List.mem_cons_of_mem _ hmem)) hpb hp

end Go.Proofs.Ytobnehbcnlhchaa.Ch
