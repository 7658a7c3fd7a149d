/- Words: a list of words that grows, word by word, beside what it must read as. Conditions: none. -/
import Derived.Test.YtdhlbdllidfenaaDoorBkE
namespace Go.Proofs.YtdhlbdllidfenaaDoor.Wd
open Go.RowKit Go.Proofs.YtdhlbdllidfenaaDoor.Mem
set_option linter.unusedVariables false
set_option linter.unusedSimpArgs false
theorem TR.nil (D : Nat → Prop) (w : World) (A : Option Addr) : TR D w A [] := fun j u h => by simp at h
theorem TR.left {D : Nat → Prop} {w : World} {A : Option Addr} {a b : List (List UInt8)} (h : TR D w A (a ++ b)) : TR D w A a := fun j u hj => h j u (by rw [List.getElem?_append_left (List.getElem?_eq_some_iff.1 hj).1]; exact hj)
structure Gz (wS w : World) (z : TL) (dl dm : List (List UInt8)) (lA : Option Addr) (lc : Nat) (lb : Option Nat) (mA : Option Addr) (mc : Nat) (mb : Option Nat) : Prop where
  l : Row w 9 1 lb (.slice lA (z.d.length + dl.length) lc) (z.d.length + dl.length) ((z.d ++ dl).map sv)
  m : Row w 9 1 mb (.slice mA (z.d.length + dm.length) mc) (z.d.length + dm.length) ((z.d ++ dm).map sv)
  lz : lb = z.b ∨ ∃ k, lb = some k ∧ wS.heap.size ≤ k
  mz : ∀ k, mb = some k → wS.heap.size ≤ k ∧ lb ≠ some k
  zr : TR (fun k => z.b = some k ∧ BT w k 9) w z.A z.d
  fr : Fr (fun k => z.b = some k) wS w
  za : ∀ g, z.b = some g → z.A = some ⟨g, 0, none⟩ ∧ g < wS.heap.size
  zn : z.b = none → z.d = []
section
variable {wS w w1 : World} {z : TL} {dl dm : List (List UInt8)} {lA mA : Option Addr} {lc mc : Nat} {lb mb : Option Nat}
theorem zr_fr {S : Nat → Prop} (h : TR (fun k => z.b = some k ∧ BT w k 9) w z.A z.d) (hf : Fr S w w1) (hn : ∀ k, z.b = some k → ¬ S k) : TR (fun k => z.b = some k ∧ BT w1 k 9) w1 z.A z.d := by
  have h3 := h.fr hf (fun k _ d => hn k d.1)
  intro j u hj
  obtain ⟨ad, e, ⟨d1, d2⟩, c⟩ := h3 j u hj
  exact ⟨ad, e, ⟨d1, d2.fr hf (hn _ d1)⟩, c⟩
theorem Gz.quiet (h : Gz wS w z dl dm lA lc lb mA mc mb) (hf : Fr No w w1) : Gz wS w1 z dl dm lA lc lb mA mc mb :=
  ⟨h.l.fr hf (fun _ _ q => q), h.m.fr hf (fun _ _ q => q), h.lz, h.mz, zr_fr h.zr hf (fun _ _ q => q), h.fr.trans hf (fun _ _ q => q.elim), h.za, h.zn⟩
theorem Gz.growL (h : Gz wS w z dl dm lA lc lb mA mc mb) (v : List UInt8) {lA' : Option Addr} {lc' : Nat} {lb' : Option Nat} (hr : Row w1 9 1 lb' (.slice lA' (z.d.length + dl.length + 1) lc') (z.d.length + dl.length + 1) ((z.d ++ dl ++ [v]).map sv))
    (hd : (lb' = lb ∧ Fr (fun q => lb = some q) w w1) ∨ (∃ q, lb' = some q ∧ w.heap.size ≤ q ∧ Fr No w w1)) : Gz wS w1 z (dl ++ [v]) dm lA' lc' lb' mA mc mb := by
  have hr' : Row w1 9 1 lb' (.slice lA' (z.d.length + (dl ++ [v]).length) lc') (z.d.length + (dl ++ [v]).length) ((z.d ++ (dl ++ [v])).map sv) := by
    rw [List.length_append, ← Nat.add_assoc, ← List.append_assoc]; exact hr
  have hsz := h.fr.size
  rcases hd with ⟨rfl, hf⟩ | ⟨q, rfl, hq, hf⟩
  · have hzr : TR (fun k => z.b = some k ∧ BT w1 k 9) w1 z.A z.d := by
      by_cases hb : lb' = z.b
      · cases hzb : z.b with
        | none => rw [h.zn hzb]; exact TR.nil _ _ _
        | some g =>
          rw [hzb] at hb
          subst hb
          obtain ⟨c, hv, _⟩ := Row.form hr
          have hA : lA' = some ⟨g, 0, none⟩ := by injection hv
          rw [(h.za g hzb).1]
          rw [hA] at hr
          have hbr := Row.tr (D := fun k => some g = some k ∧ BT w1 k 9) hr (fun k hk => ⟨hk, Row.bt hr hk⟩)
          rw [List.append_assoc] at hbr
          exact TR.left hbr
      · refine zr_fr h.zr hf (fun k hk q => ?_)
        rcases h.lz with e | ⟨k', e, hk'⟩
        · exact hb e
        · rw [e] at q
          cases q
          have := (h.za _ hk).2
          omega
    refine ⟨hr', h.m.fr hf (fun k hk q => (h.mz k hk).2 q), h.lz, h.mz, hzr, h.fr.trans hf (fun k hk q => ?_), h.za, h.zn⟩
    rcases h.lz with e | ⟨k', e, hk'⟩
    · rw [← e]; exact q
    · rw [e] at q
      cases q
      omega
  · exact ⟨hr', h.m.fr hf (fun _ _ s => s), .inr ⟨q, rfl, by omega⟩, fun k hk => ⟨(h.mz k hk).1, fun e => by cases e; have := (Row.bt h.m hk).lt; omega⟩, zr_fr h.zr hf (fun _ _ s => s), h.fr.trans hf (fun _ _ s => s.elim), h.za, h.zn⟩
theorem Gz.growM (h : Gz wS w z dl dm lA lc lb mA mc mb) (v : List UInt8) {mA' : Option Addr} {mc' : Nat} {mb' : Option Nat} (hr : Row w1 9 1 mb' (.slice mA' (z.d.length + dm.length + 1) mc') (z.d.length + dm.length + 1) ((z.d ++ dm ++ [v]).map sv))
    (hd : (mb' = mb ∧ Fr (fun q => mb = some q) w w1) ∨ (∃ q, mb' = some q ∧ w.heap.size ≤ q ∧ Fr No w w1)) : Gz wS w1 z dl (dm ++ [v]) lA lc lb mA' mc' mb' := by
  have hr' : Row w1 9 1 mb' (.slice mA' (z.d.length + (dm ++ [v]).length) mc') (z.d.length + (dm ++ [v]).length) ((z.d ++ (dm ++ [v])).map sv) := by
    rw [List.length_append, ← Nat.add_assoc, ← List.append_assoc]; exact hr
  have hsz := h.fr.size
  rcases hd with ⟨rfl, hf⟩ | ⟨q, rfl, hq, hf⟩
  · refine ⟨h.l.fr hf (fun k hk q => (h.mz k q).2 hk), hr', h.lz, h.mz, zr_fr h.zr hf (fun k hk q => ?_), h.fr.trans hf (fun k hk q => ?_), h.za, h.zn⟩
    · have h1 := (h.mz k q).1
      have h2 := (h.za k hk).2
      omega
    · have h1 := (h.mz k q).1
      omega
  · exact ⟨h.l.fr hf (fun _ _ s => s), hr', h.lz, fun k hk => by cases hk; exact ⟨by omega, fun e => by have := (Row.bt h.l e).lt; omega⟩, zr_fr h.zr hf (fun _ _ s => s), h.fr.trans hf (fun _ _ s => s.elim), h.za, h.zn⟩
end
theorem Gz.start {wS w : World} {z : TL} (hz : LT wS z) (hf : Fr No wS w) {mA : Option Addr} {mc : Nat} {mb : Option Nat} (hm : Row w 9 1 mb (.slice mA z.d.length mc) z.d.length (z.d.map sv)) (hmn : ∀ k, mb = some k → wS.heap.size ≤ k) : Gz wS w z [] [] z.A z.c z.b mA mc mb := by
  have hz1 : LT w z := hz.fr hf (fun _ _ q => q)
  refine ⟨by rw [List.append_nil]; exact hz1, by rw [List.append_nil]; exact hm, .inl rfl, fun k hk => ⟨hmn k hk, fun e => ?_⟩, Row.tr (D := fun k => z.b = some k ∧ BT w k 9) (n := z.d.length) (c := z.c) hz1 (fun k hk => ⟨hk, Row.bt hz1 hk⟩), hf.mono (fun _ _ q => q.elim), fun g hg => ⟨?_, (Row.bt hz hg).lt⟩, fun hn => ?_⟩
  · have h1 := hmn k hk
    have h2 := (Row.bt hz e).lt
    omega
  · have h1 := hz
    unfold LT at h1
    rw [hg] at h1
    obtain ⟨c, hv, _⟩ := Row.form h1
    unfold TL.v at hv
    injection hv
  · rcases hz with ⟨_, hl, _⟩ | ⟨g, hg, _⟩
    · exact List.eq_nil_of_length_eq_zero hl
    · rw [hn] at hg; cases hg
end Go.Proofs.YtdhlbdllidfenaaDoor.Wd
