/- A stream, in plain terms: what is found in bytes. Conditions: none. -/
import Derived.Test.YtfpjdgkooikeoaaDoorSealK
namespace Go.Proofs.YtfpjdgkooikeoaaDoor.Sl
open Go.RowKit Go.Proofs.YtfpjdgkooikeoaaDoor.Mem
set_option linter.unusedVariables false
set_option linter.unusedSimpArgs false
/-- alike as far as both go -/
def agr (x y : List UInt8) : Bool := decide (x.take (min x.length y.length) = y.take (min x.length y.length))
def begL (b : List UInt8) : Bool × Nat :=
  if agr b [0x46, 0x4C] = false then (false, 0) else
  if b.length < 5 then (true, 0) else
  if 65536 < lenL b ∨ agr (b.drop 5) (sumB (b.take 5)) = false then (false, 0) else
  if b.length < 9 + lenL b then (true, 0) else
  if agr (b.drop (9 + lenL b)) (sumB (midL b)) = false then (false, 0) else
  if b.length < lenL b + 13 then (true, 0) else (true, lenL b + 13)
theorem agr_false {x y z : List UInt8} (h : agr x y = false) : agr (x ++ z) y = false := by
  unfold agr at *
  rw [decide_eq_false_iff_not] at *
  intro q
  apply h
  have := congrArg (List.take (min x.length y.length)) q
  rw [List.take_take, List.take_take, Nat.min_eq_left (by rw [List.length_append]; omega), List.take_append_of_le_length (by omega)] at this
  exact this
theorem agr_true {x y z : List UInt8} (h : agr x y = true) (hl : y.length ≤ x.length) : agr (x ++ z) y = true := by
  unfold agr at *
  rw [decide_eq_true_eq] at *
  rw [Nat.min_eq_right hl] at h
  rw [Nat.min_eq_right (by rw [List.length_append]; omega), List.take_append_of_le_length hl]
  exact h
theorem getD_app {x z : List UInt8} {i : Nat} (h : i < x.length) : (x ++ z).getD i 0 = x.getD i 0 := by
  rw [List.getD_eq_getElem?_getD, List.getD_eq_getElem?_getD, List.getElem?_append_left h]
theorem lenL_app {x : List UInt8} (z : List UInt8) (h : 5 ≤ x.length) : lenL (x ++ z) = lenL x := by
  unfold lenL
  rw [getD_app (by omega), getD_app (by omega), getD_app (by omega)]
theorem midL_app {x : List UInt8} (z : List UInt8) (h5 : 5 ≤ x.length) (h : 9 + lenL x ≤ x.length) : midL (x ++ z) = midL x := by
  unfold midL
  rw [lenL_app z h5, List.drop_append_of_le_length (by omega), List.take_append_of_le_length (by rw [List.length_drop]; omega)]
theorem midL_len {x : List UInt8} (h : 9 + lenL x ≤ x.length) : (midL x).length = lenL x := by
  unfold midL
  rw [List.length_take, List.length_drop]
  omega
theorem begL_false {x z : List UInt8} {k : Nat} (h : begL x = (false, k)) : begL (x ++ z) = (false, k) := by
  unfold begL at *
  by_cases h1 : agr x [0x46, 0x4C] = false
  · rw [if_pos h1] at h
    rw [if_pos (agr_false h1)]
    exact h
  rw [if_neg h1] at h
  have h1t : agr x [0x46, 0x4C] = true := by simpa using h1
  by_cases h2 : x.length < 5
  · rw [if_pos h2] at h; simp at h
  rw [if_neg h2] at h
  rw [if_neg (by rw [agr_true h1t (by show 2 ≤ x.length; omega)]; simp), if_neg (by rw [List.length_append]; omega), lenL_app z (by omega), List.drop_append_of_le_length (by omega), List.take_append_of_le_length (by omega)]
  by_cases h3 : 65536 < lenL x ∨ agr (x.drop 5) (sumB (x.take 5)) = false
  · rw [if_pos h3] at h
    rw [if_pos (h3.imp id agr_false)]
    exact h
  rw [if_neg h3] at h
  by_cases h4 : x.length < 9 + lenL x
  · rw [if_pos h4] at h; simp at h
  rw [if_neg h4] at h
  have h3' : agr (x.drop 5) (sumB (x.take 5)) = true := by
    cases q : agr (x.drop 5) (sumB (x.take 5))
    · exact absurd (.inr q) h3
    · rfl
  rw [if_neg (by
    rintro (q | q)
    · exact h3 (.inl q)
    · rw [agr_true h3' (by rw [sumB_len, List.length_drop]; omega)] at q; simp at q), if_neg (by rw [List.length_append]; omega), midL_app z (by omega) (by omega), List.drop_append_of_le_length (by omega)]
  by_cases h5 : agr (x.drop (9 + lenL x)) (sumB (midL x)) = false
  · rw [if_pos h5] at h
    rw [if_pos (agr_false h5)]
    exact h
  rw [if_neg h5] at h
  split at h <;> simp at h
theorem begL_found {x : List UInt8} {k : Nat} (h : begL x = (true, k + 1)) : k + 1 = lenL x + 13 ∧ lenL x + 13 ≤ x.length ∧ lenL x ≤ 65536 ∧ agr x [0x46, 0x4C] = true ∧ agr (x.drop 5) (sumB (x.take 5)) = true ∧ agr (x.drop (9 + lenL x)) (sumB (midL x)) = true := by
  unfold begL at h
  split at h
  · simp at h
  rename_i h1
  split at h
  · simp at h
  split at h
  · simp at h
  rename_i h3
  split at h
  · simp at h
  split at h
  · simp at h
  rename_i h5
  split at h
  · simp at h
  simp only [Prod.mk.injEq, true_and] at h
  refine ⟨h.symm, by omega, by omega, by simpa using h1, ?_, by simpa using h5⟩
  cases q : agr (x.drop 5) (sumB (x.take 5))
  · exact absurd (.inr q) h3
  · rfl
theorem begL_more {x : List UInt8} (z : List UInt8) {k : Nat} (h : begL x = (true, k + 1)) : begL (x ++ z) = (true, k + 1) := by
  obtain ⟨e, h1, h2, h3, h4, h5⟩ := begL_found h
  have a1 := agr_true (z := z) h3 (by show 2 ≤ x.length; omega)
  have a2 := agr_true (z := z) h4 (by rw [sumB_len, List.length_drop]; omega)
  have a3 := agr_true (z := z) h5 (by rw [sumB_len, List.length_drop]; omega)
  unfold begL
  rw [if_neg (by rw [a1]; simp), if_neg (by rw [List.length_append]; omega), lenL_app z (by omega), List.drop_append_of_le_length (by omega), List.take_append_of_le_length (by omega), if_neg (by rw [a2]; simp; omega), if_neg (by rw [List.length_append]; omega), midL_app z (by omega) (by omega), List.drop_append_of_le_length (by omega), if_neg (by rw [a3]; simp), if_neg (by rw [List.length_append]; omega), e]
inductive Scan : List UInt8 → List (List UInt8) → Nat → List UInt8 → Prop
  | nil : Scan [] [] 0 []
  | rest {b} : b ≠ [] → begL b = (true, 0) → Scan b [] 0 b
  | lost {b k f l r} : b ≠ [] → begL b = (false, k) → Scan (b.drop 1) f l r → Scan b f (l + 1) r
  | found {b k f l r} : b ≠ [] → begL b = (true, k + 1) → Scan (b.drop (k + 1)) f l r → Scan b (midL b :: f) l r
theorem Scan.det {b f l r} (h : Scan b f l r) : ∀ {f' l' r'}, Scan b f' l' r' → f = f' ∧ l = l' ∧ r = r' := by
  induction h with
  | nil =>
    intro f' l' r' h'
    cases h' with
    | nil => exact ⟨rfl, rfl, rfl⟩
    | rest h _ => exact absurd rfl h
    | lost h _ _ => exact absurd rfl h
    | found h _ _ => exact absurd rfl h
  | rest h1 h2 =>
    intro f' l' r' h'
    cases h' with
    | nil => exact absurd rfl h1
    | rest => exact ⟨rfl, rfl, rfl⟩
    | lost _ q _ => rw [h2] at q; simp at q
    | found _ q _ => rw [h2] at q; simp at q
  | lost h1 h2 _ ih =>
    intro f' l' r' h'
    cases h' with
    | nil => exact absurd rfl h1
    | rest _ q => rw [h2] at q; simp at q
    | lost _ q hs =>
      obtain ⟨a, b, c⟩ := ih hs
      exact ⟨a, by rw [b], c⟩
    | found _ q _ => rw [h2] at q; simp at q
  | found h1 h2 _ ih =>
    intro f' l' r' h'
    cases h' with
    | nil => exact absurd rfl h1
    | rest _ q => rw [h2] at q; simp at q
    | lost _ q hs => rw [h2] at q; simp at q
    | found _ q hs =>
      rw [h2] at q
      simp only [Prod.mk.injEq, true_and] at q
      have : _ = _ := Nat.succ_inj.1 q
      subst this
      obtain ⟨a, b, c⟩ := ih hs
      exact ⟨by rw [a], b, c⟩
theorem Scan.app {b f l r} (h : Scan b f l r) (y : List UInt8) {f' l' r'} (h' : Scan (r ++ y) f' l' r') : Scan (b ++ y) (f ++ f') (l + l') r' := by
  induction h with
  | nil => simpa using h'
  | rest h1 h2 => simpa using h'
  | @lost b k f l r h1 h2 _ ih =>
    have := ih h'
    rw [show l + 1 + l' = (l + l') + 1 by omega]
    refine Scan.lost (by simp [h1]) (begL_false h2) ?_
    rw [List.drop_append_of_le_length (by have := List.length_pos_iff.2 h1; omega)]
    exact this
  | @found b k f l r h1 h2 _ ih =>
    have := ih h'
    obtain ⟨e, q1, q2, _⟩ := begL_found h2
    rw [← midL_app y (by omega) (by omega)]
    refine Scan.found (by simp [h1]) (begL_more y h2) ?_
    rw [List.drop_append_of_le_length (by omega)]
    exact this
/-- how many bytes the payloads took -/
def took (f : List (List UInt8)) : Nat := (f.map (fun p => p.length + 13)).sum
theorem took_nil : took [] = 0 := rfl
theorem took_cons (p : List UInt8) (f : List (List UInt8)) : took (p :: f) = p.length + 13 + took f := rfl
theorem took_app (f g : List (List UInt8)) : took (f ++ g) = took f + took g := by unfold took; rw [List.map_append, List.sum_append]
theorem Scan.count {b f l r} (h : Scan b f l r) : l + r.length + took f = b.length := by
  induction h with
  | nil => rfl
  | rest => simp [took_nil]
  | lost h1 h2 _ ih =>
    have := List.length_pos_iff.2 h1
    rw [List.length_drop] at ih
    omega
  | found h1 h2 _ ih =>
    obtain ⟨e, q1, _⟩ := begL_found h2
    rw [List.length_drop] at ih
    rw [took_cons, midL_len (by omega)]
    omega
theorem Scan.small {b f l r} (h : Scan b f l r) : ∀ p ∈ f, p.length ≤ 65536 := by
  induction h with
  | nil => simp
  | rest => simp
  | lost _ _ _ ih => exact ih
  | found h1 h2 _ ih =>
    obtain ⟨e, q1, q2, _⟩ := begL_found h2
    intro p hp
    rcases List.mem_cons.1 hp with rfl | hp
    · rw [midL_len (by omega)]; exact q2
    · exact ih p hp
theorem Scan.ex : ∀ (n : Nat) (b : List UInt8), b.length ≤ n → ∃ f l r, Scan b f l r
  | 0, b, h => by
    have : b = [] := List.eq_nil_of_length_eq_zero (by omega)
    subst this
    exact ⟨_, _, _, .nil⟩
  | n + 1, b, h => by
    by_cases hb : b = []
    · subst hb; exact ⟨_, _, _, .nil⟩
    have hp := List.length_pos_iff.2 hb
    rcases q : begL b with ⟨_ | _, _ | k⟩
    · obtain ⟨f, l, r, hs⟩ := Scan.ex n (b.drop 1) (by rw [List.length_drop]; omega)
      exact ⟨_, _, _, .lost hb q hs⟩
    · obtain ⟨f, l, r, hs⟩ := Scan.ex n (b.drop 1) (by rw [List.length_drop]; omega)
      exact ⟨_, _, _, .lost hb q hs⟩
    · exact ⟨_, _, _, .rest hb q⟩
    · obtain ⟨f, l, r, hs⟩ := Scan.ex n (b.drop (k + 1)) (by rw [List.length_drop]; omega)
      exact ⟨_, _, _, .found hb q hs⟩
theorem Scan.drop_rest {b f l r} (h : Scan b f l r) : r ≠ [] → begL r = (true, 0) := by
  induction h with
  | nil => intro h; exact absurd rfl h
  | rest _ h2 => intro _; exact h2
  | lost _ _ _ ih => exact ih
  | found _ _ _ ih => exact ih
theorem begL_wait {x : List UInt8} (h : begL x = (true, 0)) : x.length < 65536 + 13 := by
  unfold begL at h
  split at h
  · simp at h
  split at h
  · omega
  split at h
  · simp at h
  rename_i h3
  split at h
  · omega
  split at h
  · simp at h
  split at h
  · omega
  simp at h
theorem Scan.held {b f l r} (h : Scan b f l r) : r.length ≤ 65548 := by
  by_cases hr : r = []
  · subst hr; simp
  · have := begL_wait (h.drop_rest hr); omega
theorem scan_junk (x : UInt8) (h : x ≠ 0x46) : Scan [x] [] 1 [] := by
  refine Scan.lost (by simp) (k := 0) ?_ Scan.nil
  have : agr [x] [0x46, 0x4C] = false := by
    unfold agr
    rw [decide_eq_false_iff_not]
    simpa using h
  unfold begL
  rw [if_pos this]
theorem agr_self (x y : List UInt8) (h : x.take y.length = y) : agr x y = true := by
  unfold agr
  rw [decide_eq_true_eq]
  have hl : y.length ≤ x.length := by
    have := congrArg List.length h
    rw [List.length_take] at this
    omega
  rw [Nat.min_eq_right hl, h, List.take_length]
theorem scan_seal (p : List UInt8) (hn : p.length ≤ 65536) : Scan (sealL p) [p] 0 [] := by
  have hs := seal_shape p
  have hl : lenL (sealL p) = p.length := by rw [hs]; exact head_len p.length hn _
  have hd : (sealL p).drop 9 = p ++ sumB p := by rw [hs]; exact nine_drop p.length _ _ (sumB_len _) 0
  have hm : midL (sealL p) = p := by unfold midL; rw [hl, hd, List.take_left]
  have hlen := sealL_len p
  have hb : begL (sealL p) = (true, p.length + 12 + 1) := by
    unfold begL
    rw [if_neg (by rw [agr_self _ _ (by rw [hs]; rfl)]; simp), if_neg (by omega), hl, if_neg (by
      rintro (q | q)
      · omega
      · rw [agr_self _ _ (by rw [hs]; rfl)] at q; simp at q), if_neg (by omega), hm, if_neg (by
      rw [agr_self _ _ (by rw [← List.drop_drop, hd, List.drop_left]; rfl)]; simp), if_neg (by omega)]
  have := Scan.found (b := sealL p) (f := []) (l := 0) (r := []) (by intro q; rw [q] at hlen; simp at hlen) hb (by rw [List.drop_of_length_le (by omega)]; exact Scan.nil)
  rw [hm] at this
  exact this
end Go.Proofs.YtfpjdgkooikeoaaDoor.Sl
