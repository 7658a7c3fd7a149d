/- Words of a line, in plain terms: what Split answers. No program here. Conditions: none. -/
import Derived.Test.YtdhlbdllidfenaaDoorMem
namespace Go.Proofs.YtdhlbdllidfenaaDoor.Wd
set_option linter.unusedVariables false
set_option linter.unusedSimpArgs false
def bareB (c : UInt8) : Bool := (decide (97 ≤ c.toNat) && decide (c.toNat ≤ 122)) || (decide (65 ≤ c.toNat) && decide (c.toNat ≤ 90)) || (decide (48 ≤ c.toNat) && decide (c.toNat ≤ 57)) || c.toNat == 45 || c.toNat == 95 || c.toNat == 46 || c.toNat == 47
def isBare (l : List UInt8) : Bool := l.all bareB && !l.isEmpty
def digB (c : UInt8) : Int := if 48 ≤ c.toNat ∧ c.toNat ≤ 57 then (c.toNat : Int) - 48 else if 97 ≤ c.toNat ∧ c.toNat ≤ 102 then (c.toNat : Int) - 97 + 10 else -1
theorem digB_lt (c : UInt8) : -1 ≤ digB c ∧ digB c ≤ 15 := by
  unfold digB
  split
  · omega
  · split <;> omega
inductive ER | bad (p : Nat) (c : Int) | ok (v : UInt8) (e : Nat)
/-- a byte written with a backslash, which stands at i -/
def escW (l : List UInt8) (i : Nat) : ER :=
  match l[i + 1]? with
  | none => .bad l.length 162
  | some c =>
    if c.toNat = 34 ∨ c.toNat = 92 then .ok c (i + 2)
    else if c.toNat ≠ 120 then .bad (i + 1) 161
    else match l[i + 2]? with
      | none => .bad l.length 162
      | some a =>
        if digB a < 0 then .bad (i + 2) 161
        else match l[i + 3]? with
          | none => .bad l.length 162
          | some b =>
            if digB b < 0 then .bad (i + 3) 161
            else if 32 ≤ 16 * digB a + digB b ∧ 16 * digB a + digB b ≤ 126 then .bad i 161
            else .ok (UInt8.ofNat (16 * digB a + digB b).toNat) (i + 4)
theorem lt_get {l : List UInt8} {i : Nat} {c : UInt8} (h : l[i]? = some c) : i < l.length := (List.getElem?_eq_some_iff.1 h).1
theorem escW_ok {l : List UInt8} {i e : Nat} {v : UInt8} (h : escW l i = .ok v e) : i + 2 ≤ e ∧ e ≤ l.length := by
  unfold escW at h
  split at h
  · cases h
  rename_i c h1
  have := lt_get h1
  split at h
  · injection h with _ h
    omega
  split at h
  · cases h
  split at h
  · cases h
  rename_i a h2
  split at h
  · cases h
  split at h
  · cases h
  rename_i b h3
  have := lt_get h3
  split at h
  · cases h
  split at h
  · cases h
  injection h with _ h
  omega
theorem escW_bad {l : List UInt8} {i p : Nat} {c : Int} (h : escW l i = .bad p c) (hi : i < l.length) : p ≤ l.length ∧ (c = 161 ∨ c = 162) := by
  unfold escW at h
  split at h
  · injection h with h1 h2; subst h1 h2; exact ⟨Nat.le_refl _, .inr rfl⟩
  rename_i c' h1
  have := lt_get h1
  split at h
  · cases h
  split at h
  · injection h with h1 h2; subst h1 h2; exact ⟨by omega, .inl rfl⟩
  split at h
  · injection h with h1 h2; subst h1 h2; exact ⟨Nat.le_refl _, .inr rfl⟩
  rename_i a h2
  have := lt_get h2
  split at h
  · injection h with h1 h2; subst h1 h2; exact ⟨by omega, .inl rfl⟩
  split at h
  · injection h with h1 h2; subst h1 h2; exact ⟨Nat.le_refl _, .inr rfl⟩
  rename_i b h3
  have := lt_get h3
  split at h
  · injection h with h1 h2; subst h1 h2; exact ⟨by omega, .inl rfl⟩
  split at h
  · injection h with h1 h2; subst h1 h2; exact ⟨by omega, .inl rfl⟩
  · cases h
inductive QR | bad (p : Nat) (c : Int) | ok (w : List UInt8) (e : Nat)
/-- a word in quotes, from place i on; the quote stands at fr -/
def quoW (l : List UInt8) (fr : Nat) (i : Nat) (acc : List UInt8) : QR :=
  if h : i < l.length then
    if l[i].toNat = 34 then (if isBare acc = true then .bad fr 161 else .ok acc (i + 1))
    else if l[i].toNat < 32 ∨ 126 < l[i].toNat then .bad i 161
    else if l[i].toNat = 92 then
      match hE : escW l i with
      | .bad p c => .bad p c
      | .ok v e => quoW l fr e (acc ++ [v])
    else quoW l fr (i + 1) (acc ++ [l[i]])
  else .bad l.length 162
termination_by l.length - i
decreasing_by
  · have := escW_ok hE; omega
  · omega
section
variable {l : List UInt8} {fr i : Nat} {acc : List UInt8}
theorem quo_end (h : l.length ≤ i) : quoW l fr i acc = .bad l.length 162 := by rw [quoW, dif_neg (by omega)]
theorem quo_quote (h : i < l.length) (hc : l[i].toNat = 34) : quoW l fr i acc = if isBare acc = true then .bad fr 161 else .ok acc (i + 1) := by rw [quoW, dif_pos h, if_pos hc]
theorem quo_byte (h : i < l.length) (hc : l[i].toNat < 32 ∨ 126 < l[i].toNat) : quoW l fr i acc = .bad i 161 := by rw [quoW, dif_pos h, if_neg (by omega), if_pos hc]
theorem quo_esc (h : i < l.length) (hc : l[i].toNat = 92) : quoW l fr i acc = match escW l i with | .bad p c => .bad p c | .ok v e => quoW l fr e (acc ++ [v]) := by
  rw [quoW, dif_pos h, if_neg (by omega), if_neg (by omega), if_pos hc]
  split <;> rename_i he <;> rw [he]
theorem quo_other (h : i < l.length) (h1 : l[i].toNat ≠ 34) (h2 : 32 ≤ l[i].toNat) (h3 : l[i].toNat ≤ 126) (h4 : l[i].toNat ≠ 92) : quoW l fr i acc = quoW l fr (i + 1) (acc ++ [l[i]]) := by
  rw [quoW, dif_pos h, if_neg h1, if_neg (by omega), if_neg h4]
end
theorem quo_ok {l : List UInt8} {fr : Nat} : ∀ (n i : Nat) (acc : List UInt8), l.length - i ≤ n → ∀ {w e}, quoW l fr i acc = .ok w e → i < e ∧ e ≤ l.length ∧ isBare w = false ∧ w.length + i ≤ acc.length + e
  | n, i, acc, hn, w, e, h => by
    by_cases hi : i < l.length
    · match n, hn with
      | n + 1, hn =>
        by_cases h1 : l[i].toNat = 34
        · rw [quo_quote hi h1] at h
          split at h
          · cases h
          · rename_i hb
            injection h with e1 e2
            subst e1 e2
            exact ⟨by omega, by omega, by simpa using hb, by omega⟩
        by_cases h2 : l[i].toNat < 32 ∨ 126 < l[i].toNat
        · rw [quo_byte hi h2] at h; cases h
        by_cases h4 : l[i].toNat = 92
        · rw [quo_esc hi h4] at h
          rcases hE : escW l i with ⟨p, c⟩ | ⟨v, e'⟩
          · rw [hE] at h; cases h
          · rw [hE] at h
            have := escW_ok hE
            obtain ⟨a, b, c, d⟩ := quo_ok n e' _ (by omega) h
            rw [List.length_append, List.length_singleton] at d
            exact ⟨by omega, b, c, by omega⟩
        · rw [quo_other hi h1 (by omega) (by omega) h4] at h
          obtain ⟨a, b, c, d⟩ := quo_ok n (i + 1) _ (by omega) h
          rw [List.length_append, List.length_singleton] at d
          exact ⟨by omega, b, c, by omega⟩
      | 0, hn => omega
    · rw [quo_end (by omega)] at h; cases h
/-- where bare bytes end -/
def bareEnd (l : List UInt8) (i : Nat) : Nat := i + ((l.drop i).takeWhile bareB).length
theorem bareEnd_end {l : List UInt8} {i : Nat} (h : l.length ≤ i) : bareEnd l i = i := by unfold bareEnd; rw [List.drop_of_length_le h]; rfl
theorem bareEnd_yes {l : List UInt8} {i : Nat} (h : i < l.length) (hb : bareB l[i] = true) : bareEnd l i = bareEnd l (i + 1) := by
  unfold bareEnd
  rw [List.drop_eq_getElem_cons h, List.takeWhile_cons, if_pos hb, List.length_cons]
  omega
theorem bareEnd_no {l : List UInt8} {i : Nat} (h : i < l.length) (hb : bareB l[i] = false) : bareEnd l i = i := by
  unfold bareEnd
  rw [List.drop_eq_getElem_cons h, List.takeWhile_cons, if_neg (by rw [hb]; simp)]
  rfl
theorem bareEnd_le (l : List UInt8) (i : Nat) (h : i ≤ l.length) : i ≤ bareEnd l i ∧ bareEnd l i ≤ l.length := by
  unfold bareEnd
  have := List.takeWhile_prefix (l := l.drop i) bareB
  have := this.length_le
  rw [List.length_drop] at this
  omega
/-- the word that begins at place i -/
def oneW (l : List UInt8) (i : Nat) : QR :=
  if (l.getD i 0).toNat = 34 then quoW l i (i + 1) []
  else if bareEnd l i = i then .bad i 161 else .ok ((l.drop i).take (bareEnd l i - i)) (bareEnd l i)
theorem one_ok {l : List UInt8} {i e : Nat} {w : List UInt8} (hi : i < l.length) (h : oneW l i = .ok w e) : i < e ∧ e ≤ l.length := by
  unfold oneW at h
  split at h
  · obtain ⟨a, b, _⟩ := quo_ok _ _ _ (Nat.le_refl _) h
    exact ⟨by omega, b⟩
  · split at h
    · cases h
    · injection h with _ e1
      have := bareEnd_le l i (by omega)
      omega
theorem quo_bad {l : List UInt8} {fr : Nat} : ∀ (n i : Nat) (acc : List UInt8), l.length - i ≤ n → ∀ {p c}, quoW l fr i acc = .bad p c → c = 161 ∨ c = 162
  | n, i, acc, hn, p, c, h => by
    by_cases hi : i < l.length
    · match n, hn with
      | n + 1, hn =>
        by_cases h1 : l[i].toNat = 34
        · rw [quo_quote hi h1] at h
          split at h
          · injection h with _ e; exact .inl e.symm
          · cases h
        by_cases h2 : l[i].toNat < 32 ∨ 126 < l[i].toNat
        · rw [quo_byte hi h2] at h; injection h with _ e; exact .inl e.symm
        by_cases h4 : l[i].toNat = 92
        · rw [quo_esc hi h4] at h
          rcases hE : escW l i with ⟨p', c'⟩ | ⟨v, e'⟩
          · rw [hE] at h
            injection h with _ e
            rw [← e]
            exact (escW_bad hE hi).2
          · rw [hE] at h
            have := escW_ok hE
            exact quo_bad n e' _ (by omega) h
        · rw [quo_other hi h1 (by omega) (by omega) h4] at h
          exact quo_bad n (i + 1) _ (by omega) h
      | 0, hn => omega
    · rw [quo_end (by omega)] at h; injection h with _ e; exact .inr e.symm
theorem one_bad {l : List UInt8} {i p : Nat} {c : Int} (hi : i < l.length) (h : oneW l i = .bad p c) : c = 161 ∨ c = 162 := by
  unfold oneW at h
  split at h
  · exact quo_bad _ _ _ (Nat.le_refl _) h
  · split at h
    · injection h with _ e; exact .inl e.symm
    · cases h
/-- Split, from place i on, out already found -/
def splitW (l : List UInt8) (i : Nat) (out : List (List UInt8)) : List (List UInt8) × Nat × Int :=
  if h : i < l.length then
    if l[i].toNat = 32 then splitW l (i + 1) out
    else match hO : oneW l i with
      | .bad p c => ([], p, c)
      | .ok w e => if e < l.length ∧ (l.getD e 0).toNat ≠ 32 then ([], e, 161) else splitW l e (out ++ [w])
  else (out, 0, 0)
termination_by l.length - i
decreasing_by
  · omega
  · have := one_ok h hO; omega
section
variable {l : List UInt8} {i : Nat} {out : List (List UInt8)}
theorem split_end (h : l.length ≤ i) : splitW l i out = (out, 0, 0) := by rw [splitW, dif_neg (by omega)]
theorem split_blank (h : i < l.length) (hc : l[i].toNat = 32) : splitW l i out = splitW l (i + 1) out := by rw [splitW, dif_pos h, if_pos hc]
theorem split_one (h : i < l.length) (hc : l[i].toNat ≠ 32) : splitW l i out = match oneW l i with | .bad p c => ([], p, c) | .ok w e => if e < l.length ∧ (l.getD e 0).toNat ≠ 32 then ([], e, 161) else splitW l e (out ++ [w]) := by
  rw [splitW, dif_pos h, if_neg hc]
  split <;> rename_i he <;> rw [he]
end
def splitL (l : List UInt8) : List (List UInt8) × Nat × Int := if 8192 < l.length then ([], 0, 160) else splitW l 0 []
end Go.Proofs.YtdhlbdllidfenaaDoor.Wd
