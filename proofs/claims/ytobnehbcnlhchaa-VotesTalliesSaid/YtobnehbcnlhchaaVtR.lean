/- The document's tally: its calls walked. Conditions: none. -/
import Derived.Test.YtobnehbcnlhchaaVtW
import Derived.LoopIn
import Derived.Lib.Hide
import Derived.OwnWalkIn
namespace Go.Proofs.Ytobnehbcnlhchaa.Vt
open Go.RowKit Go.Proofs.Ytobnehbcnlhchaa.Mem
set_option linter.unusedVariables false
set_option linter.unusedSimpArgs false
def iv (l : List Int) : List Value := l.map (Value.int .i64)
def bb (l : List Bool) : List Value := l.map Value.bool
theorem iv_one (l : List Int) : ∀ u ∈ iv l, u.oneCell' = true := by
  intro u hu
  obtain ⟨x, _, rfl⟩ := List.mem_map.1 hu
  rfl
theorem bb_one (l : List Bool) : ∀ u ∈ bb l, u.oneCell' = true := by
  intro u hu
  obtain ⟨x, _, rfl⟩ := List.mem_map.1 hu
  rfl
/-- the document's tally in memory: its block, those of its numbers and of its marks -/
def RT (w : World) (r s p n : Nat) (said : List Int) (spoke : List Bool) : Prop :=
  ∃ cs cp, Bk w r 103 [.slice (some ⟨s, 0, none⟩) n cs, .slice (some ⟨p, 0, none⟩) n cp] ∧ Row w 3 1 (some s) (.slice (some ⟨s, 0, none⟩) n cs) n (iv said) ∧ Row w 4 1 (some p) (.slice (some ⟨p, 0, none⟩) n cp) n (bb spoke)
section
variable {w w1 : World} {r s p n : Nat} {said : List Int} {spoke : List Bool}
theorem RT.len (h : RT w r s p n said spoke) : said.length = n ∧ spoke.length = n := by
  obtain ⟨cs, cp, _, h2, h3⟩ := h
  have a := h2.len
  have b := h3.len
  rw [iv, List.length_map, Nat.mul_one] at a
  rw [bb, List.length_map, Nat.mul_one] at b
  exact ⟨a, b⟩
theorem RT.fr {S : Nat → Prop} (h : RT w r s p n said spoke) (hf : Fr S w w1) (hr : ¬ S r) (hs : ¬ S s) (hp : ¬ S p) : RT w1 r s p n said spoke := by
  obtain ⟨cs, cp, h1, h2, h3⟩ := h
  exact ⟨cs, cp, h1.fr hf hr, h2.fr hf (fun k hk e => hs (by cases hk; exact e)), h3.fr hf (fun k hk e => hp (by cases hk; exact e))⟩
theorem RT.bts (h : RT w r s p n said spoke) : BT w r 103 ∧ BT w s 3 ∧ BT w p 4 := by
  obtain ⟨cs, cp, h1, h2, h3⟩ := h
  exact ⟨h1.bt, Row.bt h2 rfl, Row.bt h3 rfl⟩
theorem RT.ne (h : RT w r s p n said spoke) : r ≠ s ∧ r ≠ p ∧ s ≠ p := by
  obtain ⟨h1, h2, h3⟩ := h.bts
  exact ⟨h1.ne h2 (by decide), h1.ne h3 (by decide), h2.ne h3 (by decide)⟩
theorem row_cell {e : TypeId} {g c : Nat} {xs : List Value} (h : Row w e 1 (some g) (.slice (some ⟨g, 0, none⟩) n c) n xs) {k : Nat} {v : Value} (hk : xs[k]? = some v) :
    w.cell? ⟨g, k, none⟩ = some v ∧ w.frozen? ⟨g, k, none⟩ = false := by
  have hlen := h.len
  have hkl := (List.getElem?_eq_some_iff.1 hk).1
  obtain ⟨_, _, h1, h2, _, h3, h4⟩ := Row.at_ h (by omega)
  cases h1
  exact ⟨h3 k v hk, h4 k⟩
end
theorem rGet_ {w : World} {r s p n : Nat} {said : List Int} {spoke : List Bool} (h : RT w r s p n said spoke) (hn : n ≤ 7) (k : Nat) (x : Int) (b : Bool) (hx : said[k]? = some x) (hb : spoke[k]? = some b) :
    Calls Try.prog 43 #[.pointer (some ⟨r, 0, none⟩), .int .i64 (k : Int)] w fun e w' => e = .returned (.tuple #[.int .i64 (if b = true then x else 0), .bool b]) ∧ w' = w := by
  obtain ⟨hl1, hl2⟩ := h.len
  obtain ⟨cs, cp, h1, h2, h3⟩ := h
  have hk := (List.getElem?_eq_some_iff.1 hx).1
  obtain ⟨c1, f1⟩ := row_cell h2 (k := k) (v := .int .i64 x) (by rw [iv, List.getElem?_map, hx]; rfl)
  obtain ⟨c2, f2⟩ := row_cell h3 (k := k) (v := .bool b) (by rw [bb, List.getElem?_map, hb]; rfl)
  obtain ⟨r0, r1, rf⟩ := h1.two
  have d1 : decide ((k : Int) < 0) = false := decide_eq_false (by omega)
  have hkn : k < n := by omega
  have hkni : (k : Int) < (n : Int) := by omega
  have d2 : decide ((n : Int) ≤ (k : Int)) = false := decide_eq_false (by omega)
  have d3 : decide (n ≤ k) = false := decide_eq_false (by omega)
  clear h1 h2 h3 f1 f2 hl1 hl2 hx hb hk
  cases b with
  | true =>
    go_enter Try.func43, Try.ntmps43
    go_wp2
    go_ret2
    exact ⟨rfl, rfl⟩
  | false =>
    go_enter Try.func43, Try.ntmps43
    go_wp2
    go_ret2
    exact ⟨rfl, rfl⟩
theorem rGet_no {w : World} {r s p n : Nat} {said : List Int} {spoke : List Bool} (h : RT w r s p n said spoke) (hn : n ≤ 7) (who : Int) (hw : who < 0 ∨ (n : Int) ≤ who) :
    Calls Try.prog 43 #[.pointer (some ⟨r, 0, none⟩), .int .i64 who] w fun e w' => e = .returned (.tuple #[.int .i64 0, .bool false]) ∧ w' = w := by
  obtain ⟨cs, cp, h1, h2, h3⟩ := h
  obtain ⟨r0, r1, rf⟩ := h1.two
  clear h1 h2 h3
  by_cases h : who < 0
  · have d1 : decide (who < 0) = true := decide_eq_true h
    go_enter Try.func43, Try.ntmps43
    go_wp2
    go_ret2
    exact ⟨rfl, rfl⟩
  · have d1 : decide (who < 0) = false := decide_eq_false h
    have d2 : decide ((n : Int) ≤ who) = true := decide_eq_true (by omega)
    go_enter Try.func43, Try.ntmps43
    go_wp2
    go_ret2
    exact ⟨rfl, rfl⟩
theorem rAdd_ {w : World} {r s p n : Nat} {said : List Int} {spoke : List Bool} (h : RT w r s p n said spoke) (hn : n ≤ 7) (k : Nat) (b : Bool) (hb : spoke[k]? = some b) (v : Int) :
    Calls Try.prog 41 #[.pointer (some ⟨r, 0, none⟩), .int .i64 (k : Int), .int .i64 v] w fun e w' => e = .returned (.tuple #[.bool (!b), .int .i64 0]) ∧ RT w' r s p n (said.set k v) (spoke.set k true) ∧ Fr (fun j => j = s ∨ j = p) w w' := by
  obtain ⟨hl1, hl2⟩ := h.len
  obtain ⟨hn1, hn2, hn3⟩ := h.ne
  have H := Lib.hid h
  obtain ⟨cs, cp, h1, h2, h3⟩ := h
  have hk := (List.getElem?_eq_some_iff.1 hb).1
  obtain ⟨x, hx⟩ : ∃ x, said[k]? = some x := ⟨_, List.getElem?_eq_getElem (by omega)⟩
  obtain ⟨c1, f1⟩ := row_cell h2 (k := k) (v := .int .i64 x) (by rw [iv, List.getElem?_map, hx]; rfl)
  obtain ⟨c2, f2⟩ := row_cell h3 (k := k) (v := .bool b) (by rw [bb, List.getElem?_map, hb]; rfl)
  obtain ⟨r0, r1, rf⟩ := h1.two
  have d1 : decide ((k : Int) < 0) = false := decide_eq_false (by omega)
  have hkn : k < n := by omega
  have hkni : (k : Int) < (n : Int) := by omega
  have d2 : decide ((n : Int) ≤ (k : Int)) = false := decide_eq_false (by omega)
  have d3 : decide (n ≤ k) = false := decide_eq_false (by omega)
  have hset : RT ((w.setCell ⟨p, k, none⟩ (.bool true)).setCell ⟨s, k, none⟩ (.int .i64 v)) r s p n (said.set k v) (spoke.set k true) := by
    refine ⟨cs, cp, (h1.far (p := ⟨p, k, none⟩) hn2 _).far (p := ⟨s, k, none⟩) hn1 _, ?_, ?_⟩
    · have a := (h2.fr (S := fun j => j = p) ((Fr.refl (fun j => j = p) w).set (p := ⟨p, k, none⟩) (.inl rfl) (.bool true)) (fun q hq e => by cases hq; exact hn3 e)).set rfl k (.int .i64 v) (by rw [iv, List.length_map]; omega)
      rw [iv, List.map_set]
      exact a
    · have a := (h3.set rfl k (.bool true) (by rw [bb, List.length_map]; omega)).fr (S := fun j => j = s) ((Fr.refl (fun j => j = s) _).set (p := ⟨s, k, none⟩) (.inl rfl) (.int .i64 v)) (fun q hq e => by cases hq; exact hn3 e.symm)
      rw [bb, List.map_set]
      exact a
  have HS := Lib.hid hset
  have HF := Lib.hid (show Fr (fun j => j = s ∨ j = p) w ((w.setCell ⟨p, k, none⟩ (.bool true)).setCell ⟨s, k, none⟩ (.int .i64 v)) from ((Fr.refl (fun j => j = s ∨ j = p) w).set (p := ⟨p, k, none⟩) (.inl (.inr rfl)) _).set (p := ⟨s, k, none⟩) (.inl (.inl rfl)) _)
  have hps : p ≠ s := fun e => hn3 e.symm
  clear h1 h2 h3 hl1 hl2 hx hb hk hset H
  go_enter Try.func41, Try.ntmps41
  go_wp2
  go_ret2
  try simp only [add0]
  exact ⟨rfl, HS.out, HF.out⟩
theorem rAdd_no {w : World} {r s p n : Nat} {said : List Int} {spoke : List Bool} (h : RT w r s p n said spoke) (hn : n ≤ 7) (who v : Int) (hw : who < 0 ∨ (n : Int) ≤ who) :
    Calls Try.prog 41 #[.pointer (some ⟨r, 0, none⟩), .int .i64 who, .int .i64 v] w fun e w' => e = .returned (.tuple #[.bool false, .int .i64 41]) ∧ w' = w := by
  obtain ⟨cs, cp, h1, h2, h3⟩ := h
  obtain ⟨r0, r1, rf⟩ := h1.two
  clear h1 h2 h3
  by_cases h : who < 0
  · have d1 : decide (who < 0) = true := decide_eq_true h
    go_enter Try.func41, Try.ntmps41
    go_wp2
    go_ret2
    exact ⟨rfl, rfl⟩
  · have d1 : decide (who < 0) = false := decide_eq_false h
    have d2 : decide ((n : Int) ≤ who) = true := decide_eq_true (by omega)
    go_enter Try.func41, Try.ntmps41
    go_wp2
    go_ret2
    exact ⟨rfl, rfl⟩
theorem rDrop_ {w : World} {r s p n : Nat} {said : List Int} {spoke : List Bool} (h : RT w r s p n said spoke) (hn : n ≤ 7) (k : Nat) (b : Bool) (hb : spoke[k]? = some b) :
    Calls Try.prog 46 #[.pointer (some ⟨r, 0, none⟩), .int .i64 (k : Int)] w fun e w' => e = .returned (.bool b) ∧ RT w' r s p n said (spoke.set k false) ∧ Fr (fun j => j = p) w w' := by
  obtain ⟨hl1, hl2⟩ := h.len
  obtain ⟨hn1, hn2, hn3⟩ := h.ne
  have H := Lib.hid h
  obtain ⟨cs, cp, h1, h2, h3⟩ := h
  have hk := (List.getElem?_eq_some_iff.1 hb).1
  obtain ⟨c2, f2⟩ := row_cell h3 (k := k) (v := .bool b) (by rw [bb, List.getElem?_map, hb]; rfl)
  obtain ⟨r0, r1, rf⟩ := h1.two
  have d1 : decide ((k : Int) < 0) = false := decide_eq_false (by omega)
  have hkn : k < n := by omega
  have hkni : (k : Int) < (n : Int) := by omega
  have d2 : decide ((n : Int) ≤ (k : Int)) = false := decide_eq_false (by omega)
  have d3 : decide (n ≤ k) = false := decide_eq_false (by omega)
  have HS := Lib.hid (show RT (w.setCell ⟨p, k, none⟩ (.bool false)) r s p n said (spoke.set k false) by
    refine ⟨cs, cp, h1.far (p := ⟨p, k, none⟩) hn2 _, ?_, ?_⟩
    · exact h2.fr (S := fun j => j = p) ((Fr.refl (fun j => j = p) w).set (p := ⟨p, k, none⟩) (.inl rfl) (.bool false)) (fun q hq e => by cases hq; exact hn3 e)
    · have a := h3.set rfl k (.bool false) (by rw [bb, List.length_map]; omega)
      rw [bb, List.map_set]
      exact a)
  have HF := Lib.hid (show Fr (fun j => j = p) w (w.setCell ⟨p, k, none⟩ (.bool false)) from (Fr.refl (fun j => j = p) w).set (p := ⟨p, k, none⟩) (.inl rfl) _)
  have HSN := Lib.hid (show b = false → RT w r s p n said (spoke.set k false) from fun e => by
    have : spoke.set k false = spoke := by
      apply List.ext_getElem?
      intro j
      rw [List.getElem?_set]
      split
      · rename_i e2; subst e2; first | (rw [hb, e]; done) | (rw [hb, e]; simp; done) | (rw [hb, e]; simp; omega)
      · rfl
    rw [this]; exact H.out)
  clear h1 h2 h3 hl1 hl2 hb hk H
  cases b with
  | true =>
    go_enter Try.func46, Try.ntmps46
    go_wp2
    go_ret
    exact ⟨rfl, HS.out, HF.out⟩
  | false =>
    go_enter Try.func46, Try.ntmps46
    go_wp2
    go_ret
    exact ⟨rfl, HSN.out (by first | rfl | trivial), Fr.refl _ _⟩
theorem rDrop_no {w : World} {r s p n : Nat} {said : List Int} {spoke : List Bool} (h : RT w r s p n said spoke) (hn : n ≤ 7) (who : Int) (hw : who < 0 ∨ (n : Int) ≤ who) :
    Calls Try.prog 46 #[.pointer (some ⟨r, 0, none⟩), .int .i64 who] w fun e w' => e = .returned (.bool false) ∧ w' = w := by
  obtain ⟨cs, cp, h1, h2, h3⟩ := h
  obtain ⟨r0, r1, rf⟩ := h1.two
  clear h1 h2 h3
  by_cases h : who < 0
  · have d1 : decide (who < 0) = true := decide_eq_true h
    go_enter Try.func46, Try.ntmps46
    go_wp2
    go_ret
    exact ⟨rfl, rfl⟩
  · have d1 : decide (who < 0) = false := decide_eq_false h
    have d2 : decide ((n : Int) ≤ who) = true := decide_eq_true (by omega)
    go_enter Try.func46, Try.ntmps46
    go_wp2
    go_ret
    exact ⟨rfl, rfl⟩
/-- how many marks are set -/
def cnt (l : List Bool) : Nat := (l.filter id).length
theorem cnt_take (l : List Bool) (k : Nat) (b : Bool) (h : l[k]? = some b) : cnt (l.take (k + 1)) = cnt (l.take k) + (if b = true then 1 else 0) := by
  unfold cnt
  rw [List.take_add_one, h, List.filter_append, List.length_append]
  cases b <;> simp
theorem cnt_le (l : List Bool) : cnt l ≤ l.length := List.length_filter_le _ _
theorem rCount_ {w : World} {r s p n : Nat} {said : List Int} {spoke : List Bool} (h : RT w r s p n said spoke) (hn : n ≤ 7) :
    Calls Try.prog 47 #[.pointer (some ⟨r, 0, none⟩)] w fun e w' => e = .returned (.int .i64 (cnt spoke)) ∧ w' = w := by
  obtain ⟨hl1, hl2⟩ := h.len
  obtain ⟨cs, cp, h1, h2, h3⟩ := h
  obtain ⟨r0, r1, rf⟩ := h1.two
  have HC := Lib.hid (fun (k : Nat) (b : Bool) (hb : spoke[k]? = some b) => (row_cell h3 (k := k) (v := .bool b) (by rw [bb, List.getElem?_map, hb]; rfl)).1)
  have HL := Lib.hid hl2
  clear h1 h2 h3 hl1 hl2
  go_enter Try.func47, Try.ntmps47
  go_wp2
  go_loopw [3, 4] (fun m i wr => ∃ k : Nat, k ≤ n ∧ i = .int .i64 k ∧ m = .int .i64 (cnt (spoke.take k)) ∧ wr = w) (fun _ i _ => n - (intOf i).toNat)
  case atStart => exact ⟨0, Nat.zero_le _, rfl, rfl, rfl⟩
  case round =>
    obtain ⟨k, hk, rfl, rfl, rfl⟩ := hrel
    by_cases hlt : k < n
    · obtain ⟨b, hb⟩ : ∃ b, spoke[k]? = some b := ⟨_, List.getElem?_eq_getElem (by have := HL.out; omega)⟩
      have c := HC.out k b hb
      have HT := Lib.hid (cnt_take spoke k b hb)
      have hle := cnt_le (spoke.take k)
      rw [List.length_take] at hle
      have hki : (k : Int) < (n : Int) := by omega
      clear hb
      cases b with
      | true =>
        go_wp2
        go_roundw
        case rel => exact ⟨k + 1, by omega, by simp, by rw [HT.out]; simp, by first | rfl | trivial⟩
        case measure => simp [intOf]; omega
      | false =>
        go_wp2
        go_roundw
        case rel => exact ⟨k + 1, by omega, by simp, by rw [HT.out]; simp, by first | rfl | trivial⟩
        case measure => simp [intOf]; omega
    · obtain rfl : k = n := by omega
      have HT := Lib.hid (show spoke.take k = spoke from List.take_of_length_le (by have := HL.out; omega))
      go_wp2
      go_ret
      exact ⟨by rw [HT.out]; rfl, by first | rfl | trivial⟩
theorem clear_step (l : List Bool) (k : Nat) (h : k < l.length) : (List.replicate k false ++ l.drop k).set k false = List.replicate (k + 1) false ++ l.drop (k + 1) := by
  apply List.ext_getElem?
  intro j
  rw [List.getElem?_set]
  by_cases hj : k = j
  · subst hj
    rw [if_pos rfl, if_pos (by simp; omega), List.getElem?_append_left (by simp)]
    simp
  · rw [if_neg hj]
    rcases Nat.lt_or_ge j k with q | q
    · rw [List.getElem?_append_left (by simpa using q), List.getElem?_append_left (by simp; omega)]
      simp [q, Nat.lt_succ_of_lt q]
    · rw [List.getElem?_append_right (by simpa using q), List.getElem?_append_right (by simp; omega)]
      simp only [List.length_replicate, List.getElem?_drop]
      congr 1
      omega
theorem rClear_ {w : World} {r s p n : Nat} {said : List Int} {spoke : List Bool} (h : RT w r s p n said spoke) (hn : n ≤ 7) :
    Calls Try.prog 51 #[.pointer (some ⟨r, 0, none⟩)] w fun e w' => (∃ v, e = .returned v) ∧ RT w' r s p n said (List.replicate n false) ∧ Fr (fun j => j = p) w w' := by
  obtain ⟨hl1, hl2⟩ := h.len
  have H := Lib.hid h
  have HL := Lib.hid hl2
  clear h hl1 hl2
  go_enter Try.func51, Try.ntmps51
  go_wp2
  go_loopw [2] (fun i wr => ∃ k : Nat, k ≤ n ∧ i = .int .i64 k ∧ Hid (RT wr r s p n said (List.replicate k false ++ spoke.drop k)) ∧ Hid (Fr (fun j => j = p) w wr)) (fun i _ => n - (intOf i).toNat)
  case atStart => exact ⟨0, Nat.zero_le _, rfl, H.out, Fr.refl _ _⟩
  case round =>
    obtain ⟨k, hk, rfl, HR, HF⟩ := hrel
    obtain ⟨hn1, hn2, hn3⟩ := HR.out.ne
    obtain ⟨cs, cp, h1, h2, h3⟩ := HR.out
    obtain ⟨r0, r1, rf⟩ := h1.two
    by_cases hlt : k < n
    · obtain ⟨b, hb⟩ : ∃ b, spoke[k]? = some b := ⟨_, List.getElem?_eq_getElem (by have := HL.out; omega)⟩
      obtain ⟨c2, f2⟩ := row_cell h3 (k := k) (v := .bool b) (by rw [bb, List.getElem?_map, List.getElem?_append_right (by simp)]; simp [hb])
      have hki : (k : Int) < (n : Int) := by omega
      have HS := Lib.hid (show RT (wr.setCell ⟨p, k, none⟩ (.bool false)) r s p n said (List.replicate (k + 1) false ++ spoke.drop (k + 1)) by
        refine ⟨cs, cp, h1.far (p := ⟨p, k, none⟩) hn2 _, ?_, ?_⟩
        · exact h2.fr (S := fun j => j = p) ((Fr.refl (fun j => j = p) wr).set (p := ⟨p, k, none⟩) (.inl rfl) (.bool false)) (fun q hq e => by cases hq; exact hn3 e)
        · have a := h3.set rfl k (.bool false) (by rw [bb, List.length_map, List.length_append, List.length_replicate, List.length_drop]; have := HL.out; omega)
          rw [← clear_step spoke k (by have := HL.out; omega), bb, List.map_set]
          exact a)
      clear h1 h2 h3 hb
      go_wp2
      go_roundw
      case rel => exact ⟨k + 1, by omega, by simp, HS.out, HF.out.set (p := ⟨p, k, none⟩) (.inl rfl) _⟩
      case measure => simp [intOf]; omega
    · obtain rfl : k = n := by omega
      have HT := Lib.hid (show List.replicate k false ++ spoke.drop k = List.replicate k false by rw [List.drop_of_length_le (by have := HL.out; omega), List.append_nil])
      rw [HT.out] at HR
      clear h1 h2 h3
      go_wp2
      go_end0
      exact ⟨⟨_, rfl⟩, HR.out, HF.out⟩
end Go.Proofs.Ytobnehbcnlhchaa.Vt
