/- Two tallies and the document's: Add, Get, Drop, at any voter: alike. Conditions: none. -/
import Derived.Test.YtobnehbcnlhchaaVtF
namespace Go.Proofs.Ytobnehbcnlhchaa.Vt
open Go.RowKit Go.Proofs.Ytobnehbcnlhchaa.Mem
set_option linter.unusedVariables false
set_option linter.unusedSimpArgs false
theorem who_cases (n : Nat) (who : Int) : (∃ k : Nat, k < n ∧ who = (k : Int)) ∨ (who < 0 ∨ (n : Int) ≤ who) := by
  by_cases h : who < 0 ∨ (n : Int) ≤ who
  · exact .inr h
  · exact .inl ⟨who.toNat, by omega, by omega⟩
/-- what Add answers, of all three -/
structure AddC (n : Nat) (said : List Int) (spoke : List Bool) (who v : Int) (b : Bool) (er : Int) (said' : List Int) (spoke' : List Bool) : Prop where
  i : ∀ w g, VtI.Tl w g n (s7 id 0 said spoke) → Calls Try.prog 29 #[.pointer (some ⟨g, 0, none⟩), .int .i64 who, .int .i64 v] w fun e w' => e = .returned (.tuple #[.bool b, .int .i64 er]) ∧ VtI.Tl w' g n (s7 id 0 said' spoke') ∧ Fr (fun j => j = g) w w'
  s : ∀ w g, VtS.Tl w g n (s7 textV ByteArray.empty said spoke) → Calls Try.prog 39 #[.pointer (some ⟨g, 0, none⟩), .int .i64 who, .string (textV v)] w fun e w' => e = .returned (.tuple #[.bool b, .int .i64 er]) ∧ VtS.Tl w' g n (s7 textV ByteArray.empty said' spoke') ∧ Fr (fun j => j = g) w w'
  r : ∀ w r s p, RT w r s p n said spoke → Calls Try.prog 41 #[.pointer (some ⟨r, 0, none⟩), .int .i64 who, .int .i64 v] w fun e w' => e = .returned (.tuple #[.bool b, .int .i64 er]) ∧ RT w' r s p n said' spoke' ∧ Fr (fun j => j = s ∨ j = p) w w'
theorem add_c {n : Nat} {said : List Int} {spoke : List Bool} (h7 : n ≤ 7) (h1 : 1 ≤ n) (hl1 : said.length = n) (hl2 : spoke.length = n) (who v : Int) : ∃ b er said' spoke', AddC n said spoke who v b er said' spoke' := by
  rcases who_cases n who with ⟨k, hk, rfl⟩ | h
  · obtain ⟨b, hb⟩ : ∃ b, spoke[k]? = some b := ⟨_, List.getElem?_eq_getElem (by omega)⟩
    have hb' : spoke.getD k false = b := by rw [List.getD_eq_getElem?_getD, hb]; rfl
    refine ⟨!b, 0, said.set k v, spoke.set k true, fun w g hT => ?_, fun w g hT => ?_, fun w r s p hR => rAdd_ hR h7 k b hb v⟩
    · have h := VtI.add_ g k n _ v w hT (by omega) (by omega)
      rw [s7_getD k (by omega), hb', show (true, v) = (true, id v) from rfl, s7_add (f := id) (z := (0 : Int)) k (by omega) (by omega) (by omega) v] at h
      exact h
    · have h := VtS.add_ g k n _ (textV v) w hT (by omega) (by omega)
      rw [s7_getD k (by omega), hb', s7_add (f := textV) (z := ByteArray.empty) k (by omega) (by omega) (by omega) v] at h
      exact h
  · exact ⟨false, 41, said, spoke, fun w g hT => (VtI.add_no g n who _ v w hT (by omega) (by omega) h).mono fun e w' hh => ⟨hh.1, hT.fr hh.2 id, hh.2.mono (fun _ _ q => q.elim)⟩,
      fun w g hT => (VtS.add_no g n who _ (textV v) w hT (by omega) (by omega) h).mono fun e w' hh => ⟨hh.1, hT.fr hh.2 id, hh.2.mono (fun _ _ q => q.elim)⟩,
      fun w r s p hR => (rAdd_no hR h7 who v h).mono fun e w' hh => ⟨hh.1, by rw [hh.2]; exact hR, by rw [hh.2]; exact Fr.refl _ _⟩⟩
structure GetC (n : Nat) (said : List Int) (spoke : List Bool) (who : Int) (x : Int) (b : Bool) : Prop where
  i : ∀ w g, VtI.Tl w g n (s7 id 0 said spoke) → Calls Try.prog 30 #[.pointer (some ⟨g, 0, none⟩), .int .i64 who] w fun e w' => e = .returned (.tuple #[.int .i64 x, .bool b]) ∧ Fr No w w'
  s : ∀ w g, VtS.Tl w g n (s7 textV ByteArray.empty said spoke) → Calls Try.prog 42 #[.pointer (some ⟨g, 0, none⟩), .int .i64 who] w fun e w' => e = .returned (.tuple #[.string (if b = true then textV x else ByteArray.empty), .bool b]) ∧ Fr No w w'
  r : ∀ w r s p, RT w r s p n said spoke → Calls Try.prog 43 #[.pointer (some ⟨r, 0, none⟩), .int .i64 who] w fun e w' => e = .returned (.tuple #[.int .i64 x, .bool b]) ∧ w' = w
theorem get_c {n : Nat} {said : List Int} {spoke : List Bool} (h7 : n ≤ 7) (h1 : 1 ≤ n) (hl1 : said.length = n) (hl2 : spoke.length = n) (who : Int) : ∃ x b, GetC n said spoke who x b := by
  rcases who_cases n who with ⟨k, hk, rfl⟩ | h
  · obtain ⟨b, hb⟩ : ∃ b, spoke[k]? = some b := ⟨_, List.getElem?_eq_getElem (by omega)⟩
    obtain ⟨x, hx⟩ : ∃ x, said[k]? = some x := ⟨_, List.getElem?_eq_getElem (by omega)⟩
    have hb' : spoke.getD k false = b := by rw [List.getD_eq_getElem?_getD, hb]; rfl
    have hx' : said.getD k 0 = x := by rw [List.getD_eq_getElem?_getD, hx]; rfl
    refine ⟨if b = true then x else 0, b, fun w g hT => ?_, fun w g hT => ?_, fun w r s p hR => rGet_ hR h7 k x b hx hb⟩
    · have h := VtI.get_ g k n _ w hT (by omega) (by omega)
      rw [s7_getD k (by omega), hb', hx'] at h
      exact h
    · have h := VtS.get_ g k n _ w hT (by omega) (by omega)
      rw [s7_getD k (by omega), hb', hx'] at h
      refine h.mono fun e w' hh => ⟨?_, hh.2⟩
      rw [hh.1]
      cases b <;> rfl
  · exact ⟨0, false, fun w g hT => VtI.get_no g n who _ w hT (by omega) (by omega) h, fun w g hT => VtS.get_no g n who _ w hT (by omega) (by omega) h, fun w r s p hR => rGet_no hR h7 who h⟩
structure DropC (n : Nat) (said : List Int) (spoke : List Bool) (who : Int) (b : Bool) (spoke' : List Bool) : Prop where
  i : ∀ w g, VtI.Tl w g n (s7 id 0 said spoke) → Calls Try.prog 44 #[.pointer (some ⟨g, 0, none⟩), .int .i64 who] w fun e w' => e = .returned (.bool b) ∧ VtI.Tl w' g n (s7 id 0 said spoke') ∧ Fr (fun j => j = g) w w'
  s : ∀ w g, VtS.Tl w g n (s7 textV ByteArray.empty said spoke) → Calls Try.prog 45 #[.pointer (some ⟨g, 0, none⟩), .int .i64 who] w fun e w' => e = .returned (.bool b) ∧ VtS.Tl w' g n (s7 textV ByteArray.empty said spoke') ∧ Fr (fun j => j = g) w w'
  r : ∀ w r s p, RT w r s p n said spoke → Calls Try.prog 46 #[.pointer (some ⟨r, 0, none⟩), .int .i64 who] w fun e w' => e = .returned (.bool b) ∧ RT w' r s p n said spoke' ∧ Fr (fun j => j = p) w w'
theorem drop_c {n : Nat} {said : List Int} {spoke : List Bool} (h7 : n ≤ 7) (h1 : 1 ≤ n) (hl1 : said.length = n) (hl2 : spoke.length = n) (who : Int) : ∃ b spoke', DropC n said spoke who b spoke' := by
  rcases who_cases n who with ⟨k, hk, rfl⟩ | h
  · obtain ⟨b, hb⟩ : ∃ b, spoke[k]? = some b := ⟨_, List.getElem?_eq_getElem (by omega)⟩
    have hb' : spoke.getD k false = b := by rw [List.getD_eq_getElem?_getD, hb]; rfl
    refine ⟨b, spoke.set k false, fun w g hT => ?_, fun w g hT => ?_, fun w r s p hR => rDrop_ hR h7 k b hb⟩
    · have h := VtI.drop_ g k n _ w hT (by omega) (by omega)
      rw [s7_getD k (by omega), hb', s7_drop (f := id) (z := (0 : Int)) k (by omega) (by omega)] at h
      exact h
    · have h := VtS.drop_ g k n _ w hT (by omega) (by omega)
      rw [s7_getD k (by omega), hb', s7_drop (f := textV) (z := ByteArray.empty) k (by omega) (by omega)] at h
      exact h
  · exact ⟨false, spoke, fun w g hT => (VtI.drop_no g n who _ w hT (by omega) (by omega) h).mono fun e w' hh => ⟨hh.1, hT.fr hh.2 id, hh.2.mono (fun _ _ q => q.elim)⟩,
      fun w g hT => (VtS.drop_no g n who _ w hT (by omega) (by omega) h).mono fun e w' hh => ⟨hh.1, hT.fr hh.2 id, hh.2.mono (fun _ _ q => q.elim)⟩,
      fun w r s p hR => (rDrop_no hR h7 who h).mono fun e w' hh => ⟨hh.1, by rw [hh.2]; exact hR, by rw [hh.2]; exact Fr.refl _ _⟩⟩
end Go.Proofs.Ytobnehbcnlhchaa.Vt
