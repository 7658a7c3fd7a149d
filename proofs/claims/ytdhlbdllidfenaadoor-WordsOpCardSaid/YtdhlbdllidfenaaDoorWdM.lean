/- Words: if Split takes a line, Join of its words is the line, but for blanks. No program here. Conditions: none. -/
import Derived.Test.YtdhlbdllidfenaaDoorWdK
namespace Go.Proofs.YtdhlbdllidfenaaDoor.Wd
set_option linter.unusedVariables false
set_option linter.unusedSimpArgs false
theorem u8_of {c : UInt8} {n : Nat} (h : c.toNat = n) : c = UInt8.ofNat n := by rw [← h, UInt8.ofNat_toNat]
theorem bare_ne {c : UInt8} (h : bareB c = true) : c.toNat ≠ 32 ∧ c.toNat ≠ 34 ∧ c.toNat ≠ 92 := by
  unfold bareB at h
  simp only [Bool.or_eq_true, Bool.and_eq_true, decide_eq_true_eq, beq_iff_eq] at h
  omega
theorem joinL_snoc (ws : List (List UInt8)) (x : List UInt8) : joinL (ws ++ [x]) = (if ws = [] then [] else joinL ws ++ [32]) ++ wrW x := by
  match ws with
  | [] => rw [List.nil_append, joinL_cons]; simp [Lib.joinTail]
  | y :: r =>
    rw [List.cons_append, joinL_cons, joinL_cons, if_neg (by simp)]
    simp [Lib.joinTail, List.append_assoc]
theorem last_append {a b : List UInt8} (h : b ≠ []) : (a ++ b).getLastD 0 = b.getLastD 0 := by
  rw [List.getLastD_eq_getLast?, List.getLastD_eq_getLast?, List.getLast?_append]
  rw [List.getLast?_eq_some_getLast h]; rfl
theorem wrW_last (x : List UInt8) : wrW x ≠ [] ∧ ((wrW x).getLastD 0).toNat ≠ 32 := by
  unfold wrW
  split
  · rename_i h
    unfold isBare at h
    rw [Bool.and_eq_true] at h
    have hne : x ≠ [] := by
      intro e
      rw [e] at h
      exact absurd h.2 (by decide)
    refine ⟨hne, ?_⟩
    rw [List.getLastD_eq_getLast?, List.getLast?_eq_some_getLast hne, Option.getD_some]
    exact (bare_ne (List.all_eq_true.1 h.1 _ (List.getLast_mem hne))).1
  · refine ⟨by simp, ?_⟩
    rw [last_append (by simp)]
    decide
theorem join_last {ws : List (List UInt8)} (h : ws ≠ []) : joinL ws ≠ [] ∧ ((joinL ws).getLastD 0).toNat ≠ 32 := by
  obtain ⟨a, x, rfl⟩ : ∃ a x, ws = a ++ [x] := ⟨ws.dropLast, ws.getLast h, (List.dropLast_concat_getLast h).symm⟩
  have hx := wrW_last x
  rw [joinL_snoc]
  refine ⟨?_, by rw [last_append hx.1]; exact hx.2⟩
  intro e
  exact hx.1 (List.append_eq_nil_iff.1 e).2
theorem drop_get {l u r : List UInt8} {i : Nat} {c : UInt8} (h : l.drop i = c :: u ++ r) : ∃ hi : i < l.length, l[i] = c ∧ l.drop (i + 1) = u ++ r := by
  have hi : i < l.length := by
    rcases Nat.lt_or_ge i l.length with q | q
    · exact q
    · rw [List.drop_of_length_le q] at h; cases h
  rw [List.drop_eq_getElem_cons hi, List.cons_append] at h
  injection h with h1 h2
  exact ⟨hi, h1, h2⟩
theorem sg_run {l r : List UInt8} {q : Bool} : ∀ (u : List UInt8) (i : Nat) (out : List UInt8), l.drop i = u ++ r → (∀ c ∈ u, ¬ (c.toNat = 32 ∧ q = false) ∧ ¬ (q = true ∧ c.toNat = 92) ∧ c.toNat ≠ 34) → sgW l i q out = sgW l (i + u.length) q (out ++ u)
  | [], i, out, h, _ => by rw [List.length_nil, Nat.add_zero, List.append_nil]
  | c :: u, i, out, h, hc => by
    obtain ⟨hi, h1, h2⟩ := drop_get h
    obtain ⟨a1, a2, a3⟩ := hc c (List.mem_cons_self ..)
    rw [sg_other hi (by rw [h1]; exact a1) (by rw [h1]; exact fun z => a2 ⟨z.1, z.2.1⟩) (by rw [h1]; exact a3), h1, sg_run u (i + 1) (out ++ [c]) h2 (fun d hd => hc d (List.mem_cons_of_mem _ hd)), List.length_cons, List.append_assoc, show i + 1 + u.length = i + (u.length + 1) by omega]
    rfl
set_option maxRecDepth 100000 in
theorem hex_dig : ∀ n, n < 256 → (48 ≤ n ∧ n ≤ 57 → hexD (n - 48) = UInt8.ofNat n) ∧ (97 ≤ n ∧ n ≤ 102 → hexD (n - 97 + 10) = UInt8.ofNat n) := by decide
theorem hexD_dig {a : UInt8} (h : 0 ≤ digB a) : hexD (digB a).toNat = a ∧ a.toNat ≠ 34 ∧ a.toNat ≠ 92 := by
  have hn : a.toNat < 256 := a.toNat_lt
  obtain ⟨h1, h2⟩ := hex_dig a.toNat hn
  rw [UInt8.ofNat_toNat] at h1 h2
  unfold digB at h ⊢
  split at h
  · rename_i hc
    rw [if_pos hc, show ((a.toNat : Int) - 48).toNat = a.toNat - 48 by omega, h1 hc]
    exact ⟨rfl, by omega, by omega⟩
  · rename_i hc
    split at h
    · rename_i hc2
      rw [if_neg hc, if_pos hc2, show ((a.toNat : Int) - 97 + 10).toNat = a.toNat - 97 + 10 by omega, h2 hc2]
      exact ⟨rfl, by omega, by omega⟩
    · omega
theorem getD_some {l : List UInt8} {k : Nat} {c : UInt8} (h : l[k]? = some c) : l.getD k 0 = c := by rw [List.getD_eq_getElem?_getD, h]; rfl
theorem get_some {l : List UInt8} {k : Nat} {c : UInt8} (h : l[k]? = some c) : ∃ hk : k < l.length, l[k] = c := List.getElem?_eq_some_iff.1 h
theorem esc_text {l : List UInt8} {i e : Nat} {v : UInt8} (h : escW l i = .ok v e) (hi : i < l.length) (h92 : l[i].toNat = 92) (out : List UInt8) : sgW l i true out = sgW l e true (out ++ wrB v) := by
  have hl92 : l[i] = 92 := u8_of h92
  unfold escW at h
  split at h
  · cases h
  rename_i c h1
  obtain ⟨hi1, h1g⟩ := get_some h1
  have hstep : sgW l i true out = sgW l (i + 2) true (out ++ [92, c]) := by rw [sg_esc hi1 h92, getD_some h1, hl92]
  split at h
  · rename_i hc
    injection h with e1 e2
    subst e1 e2
    rw [hstep]
    unfold wrB
    rw [if_pos hc]
  split at h
  · cases h
  rename_i hnc hx
  split at h
  · cases h
  rename_i a h2
  split at h
  · cases h
  rename_i hda
  split at h
  · cases h
  rename_i b h3
  split at h
  · cases h
  rename_i hdb
  split at h
  · cases h
  rename_i hv
  injection h with e1 e2
  subst e2
  obtain ⟨hi2, h2g⟩ := get_some h2
  obtain ⟨hi3, h3g⟩ := get_some h3
  have hca : c = 120 := u8_of (c := c) (n := 120) (by omega)
  obtain ⟨ha, ha1, ha2⟩ := hexD_dig (a := a) (by omega)
  obtain ⟨hb, hb1, hb2⟩ := hexD_dig (a := b) (by omega)
  have la := digB_lt a
  have lb := digB_lt b
  have hvn : v.toNat = (16 * digB a + digB b).toNat := by rw [← e1, UInt8.toNat_ofNat']; omega
  have hw : wrB v = [92, 120, a, b] := by
    unfold wrB
    rw [if_neg (by omega), if_pos (by omega), show v.toNat / 16 = (digB a).toNat by omega, show v.toNat % 16 = (digB b).toNat by omega, ha, hb]
  rw [hstep, hca, hw]
  rw [sg_other hi2 (by simp) (by rw [h2g]; exact fun z => ha2 z.2.1) (by rw [h2g]; exact ha1), h2g]
  rw [sg_other (l := l) (i := i + 2 + 1) hi3 (by simp) (by rw [show l[i + 2 + 1] = b from h3g]; exact fun z => hb2 z.2.1) (by rw [show l[i + 2 + 1] = b from h3g]; exact hb1), show l[i + 2 + 1] = b from h3g]
  simp [List.append_assoc]
theorem quo_text {l : List UInt8} {fr : Nat} : ∀ (n i : Nat) (acc : List UInt8), l.length - i ≤ n → ∀ {w e}, quoW l fr i acc = .ok w e → ∃ T, (∀ out, sgW l i true out = sgW l e false (out ++ T)) ∧ acc.flatMap wrB ++ T = w.flatMap wrB ++ [34]
  | n, i, acc, hn, w, e, h => by
    by_cases hi : i < l.length
    · match n, hn with
      | n + 1, hn =>
        by_cases h1 : l[i].toNat = 34
        · rw [quo_quote hi h1] at h
          split at h
          · cases h
          · injection h with e1 e2
            subst e1 e2
            refine ⟨[34], fun out => ?_, rfl⟩
            rw [sg_quote hi h1, show l[i] = 34 from u8_of h1]; rfl
        by_cases h2 : l[i].toNat < 32 ∨ 126 < l[i].toNat
        · rw [quo_byte hi h2] at h; cases h
        by_cases h4 : l[i].toNat = 92
        · rw [quo_esc hi h4] at h
          rcases hE : escW l i with ⟨p, c⟩ | ⟨v, e'⟩
          · rw [hE] at h; cases h
          · rw [hE] at h
            have := escW_ok hE
            obtain ⟨T, t1, t2⟩ := quo_text n e' _ (by omega) h
            refine ⟨wrB v ++ T, fun out => ?_, ?_⟩
            · rw [esc_text hE hi h4, t1, List.append_assoc]
            · rw [← t2, List.flatMap_append]; simp [List.append_assoc]
        · rw [quo_other hi h1 (by omega) (by omega) h4] at h
          obtain ⟨T, t1, t2⟩ := quo_text n (i + 1) _ (by omega) h
          refine ⟨l[i] :: T, fun out => ?_, ?_⟩
          · rw [sg_other hi (by simp) (fun z => h4 z.2.1) h1, t1, List.append_assoc]; rfl
          · have hw : wrB l[i] = [l[i]] := by unfold wrB; rw [if_neg (by omega), if_neg h2]
            rw [← t2, List.flatMap_append]; simp [hw]
      | 0, hn => omega
    · rw [quo_end (by omega)] at h; cases h
theorem one_text {l : List UInt8} {i e : Nat} {w : List UInt8} (hi : i < l.length) (h : oneW l i = .ok w e) (out : List UInt8) : sgW l i false out = sgW l e false (out ++ wrW w) := by
  unfold oneW at h
  split at h
  · rename_i hc
    have hc' : l[i].toNat = 34 := by rw [List.getD_eq_getElem?_getD, List.getElem?_eq_getElem hi] at hc; exact hc
    obtain ⟨T, t1, t2⟩ := quo_text _ _ _ (Nat.le_refl _) h
    obtain ⟨_, _, hb, _⟩ := quo_ok _ _ _ (Nat.le_refl _) h
    rw [sg_quote hi hc', show (!false) = true from rfl, t1, show l[i] = 34 from u8_of hc']
    unfold wrW
    rw [if_neg (by rw [hb]; simp), List.cons_append, ← t2]
    simp [List.append_assoc]
  · split at h
    · cases h
    · rename_i hne
      injection h with e1 e2
      subst e1 e2
      have hlen : bareEnd l i - i = ((l.drop i).takeWhile bareB).length := by unfold bareEnd; omega
      have htk : (l.drop i).take (bareEnd l i - i) = (l.drop i).takeWhile bareB := by
        rw [hlen]
        exact (List.prefix_iff_eq_take.1 (List.takeWhile_prefix bareB)).symm
      have hall : ∀ c ∈ (l.drop i).takeWhile bareB, bareB c = true := fun c hc => by
        have := List.all_takeWhile (p := bareB) (l := l.drop i)
        exact List.all_eq_true.1 this c hc
      have hpos : (l.drop i).takeWhile bareB ≠ [] := by
        intro e
        rw [e] at hlen
        have := bareEnd_le l i (by omega)
        simp at hlen
        omega
      rw [htk]
      have hw : wrW ((l.drop i).takeWhile bareB) = (l.drop i).takeWhile bareB := by
        unfold wrW
        rw [if_pos]
        unfold isBare
        rw [Bool.and_eq_true]
        refine ⟨List.all_eq_true.2 hall, ?_⟩
        cases hq : (l.drop i).takeWhile bareB with
        | nil => exact absurd hq hpos
        | cons a b => rfl
      rw [hw, sg_run ((l.drop i).takeWhile bareB) i out (List.takeWhile_append_dropWhile (p := bareB) (l := l.drop i)).symm (fun c hc => by have := bare_ne (hall c hc); exact ⟨fun z => this.1 z.1, fun z => this.2.2 z.2, this.2.1⟩)]
      congr 1
def Inv (l : List UInt8) (i : Nat) (ws : List (List UInt8)) (out : List UInt8) : Prop := (ws = [] ∧ out = []) ∨ (ws ≠ [] ∧ out = joinL ws ++ [32]) ∨ (ws ≠ [] ∧ out = joinL ws ∧ ∀ h : i < l.length, l[i].toNat = 32)
theorem last_blank (a : List UInt8) : ((a ++ [32]).getLastD 0).toNat = 32 := by rw [last_append (by simp)]; rfl
theorem split_text {l : List UInt8} : ∀ (n i : Nat) (ws : List (List UInt8)) (out : List UInt8), l.length - i ≤ n → Inv l i ws out → ∀ {WS p}, splitW l i ws = (WS, p, 0) → trimW (sgW l i false out) = joinL WS
  | n, i, ws, out, hn, hI, WS, p, h => by
    by_cases hi : i < l.length
    · match n, hn with
      | n + 1, hn =>
        by_cases hb : l[i].toNat = 32
        · rw [split_blank hi hb] at h
          rcases hI with ⟨rfl, rfl⟩ | ⟨h1, rfl⟩ | ⟨h1, rfl, _⟩
          · rw [sg_skip hi hb (.inl rfl)]
            exact split_text n (i + 1) [] [] (by omega) (.inl ⟨rfl, rfl⟩) h
          · rw [sg_skip hi hb (.inr (last_blank _))]
            exact split_text n (i + 1) _ _ (by omega) (.inr (.inl ⟨h1, rfl⟩)) h
          · obtain ⟨j1, j2⟩ := join_last h1
            rw [sg_blank hi hb j1 j2, show l[i] = 32 from u8_of hb]
            exact split_text n (i + 1) _ _ (by omega) (.inr (.inl ⟨h1, rfl⟩)) h
        · rw [split_one hi hb] at h
          rcases hO : oneW l i with ⟨p', cc⟩ | ⟨wd, e⟩
          · rw [hO] at h
            have := one_bad hi hO
            injection h with _ h
            injection h with _ h
            omega
          · rw [hO] at h
            dsimp only at h
            have hee := one_ok hi hO
            split at h
            · injection h with _ h
              injection h with _ h
              exact absurd h (by decide)
            rename_i hsp
            rw [one_text hi hO]
            refine split_text n e (ws ++ [wd]) _ (by omega) (.inr (.inr ⟨by simp, ?_, fun hel => ?_⟩)) h
            · rw [joinL_snoc]
              rcases hI with ⟨rfl, rfl⟩ | ⟨h1, rfl⟩ | ⟨_, _, h3⟩
              · rw [if_pos rfl]
              · rw [if_neg h1]
              · exact absurd (h3 hi) hb
            · have : ¬ ((l.getD e 0).toNat ≠ 32) := fun z => hsp ⟨hel, z⟩
              rw [List.getD_eq_getElem?_getD, List.getElem?_eq_getElem hel] at this
              exact Decidable.not_not.1 this
      | 0, hn => omega
    · rw [split_end (by omega)] at h
      injection h with h _
      subst h
      rw [sg_end (by omega)]
      show strip out = _
      rcases hI with ⟨rfl, rfl⟩ | ⟨h1, rfl⟩ | ⟨h1, rfl, _⟩
      · exact strip_no (fun z => z.1 rfl)
      · obtain ⟨j1, j2⟩ := join_last h1
        rw [strip_yes (by simp) (last_blank _), List.dropLast_concat]
        exact strip_no (fun z => j2 z.2)
      · exact strip_no (fun z => (join_last h1).2 z.2)
theorem one_form {l : List UInt8} {ws : List (List UInt8)} {p : Nat} (h : splitL l = (ws, p, 0)) : joinL ws = singleL l := by
  unfold splitL at h
  split at h
  · injection h with _ h
    injection h with _ h
    exact absurd h (by decide)
  · exact (split_text _ 0 [] [] (Nat.le_refl _) (.inl ⟨rfl, rfl⟩) h).symm
end Go.Proofs.YtdhlbdllidfenaaDoor.Wd
