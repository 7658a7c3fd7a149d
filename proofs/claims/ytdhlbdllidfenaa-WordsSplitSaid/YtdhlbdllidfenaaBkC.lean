/- Words: the book: what Split answers is the document's, and is kept. Conditions: none. -/
import Derived.Test.YtdhlbdllidfenaaBkB
namespace Go.Proofs.Ytdhlbdllidfenaa.Wd
open Go.RowKit Go.Proofs.Ytdhlbdllidfenaa.Mem
set_option linter.unusedVariables false
set_option linter.unusedSimpArgs false
theorem split_count {l : List UInt8} : ∀ (n i : Nat) (out : List (List UInt8)), l.length - i ≤ n → (splitW l i out).1.length ≤ out.length + (l.length - i)
  | n, i, out, hn => by
    by_cases hi : i < l.length
    · match n, hn with
      | n + 1, hn =>
        by_cases hb : l[i].toNat = 32
        · rw [split_blank hi hb]
          have := split_count (l := l) n (i + 1) out (by omega)
          omega
        · rw [split_one hi hb]
          rcases hO : oneW l i with ⟨p', cc⟩ | ⟨wd, e⟩
          · simp
          · have hee := one_ok hi hO
            dsimp only
            split
            · simp
            · have := split_count (l := l) n e (out ++ [wd]) (by omega)
              rw [List.length_append, List.length_singleton] at this
              omega
      | 0, hn => omega
    · rw [split_end (by omega)]
      show out.length ≤ _
      omega
theorem splitL_count (l : List UInt8) : (splitL l).1.length ≤ 8192 := by
  unfold splitL
  split
  · simp
  · have := split_count (l := l) _ 0 [] (Nat.le_refl _)
    simp at this
    omega
theorem TR.low {D : Nat → Prop} {w w1 : World} {A : Option Addr} {l : List (List UInt8)} {k : Nat} (h : TR D w A l) (hf : Fr No w w1) (hk : w.heap.size ≤ k) : TR (fun q => q ≠ k) w1 A l := by
  refine TR.fr (D := fun q => q ≠ k) (S := No) (fun j u hj => ?_) hf (fun _ _ _ q => q)
  obtain ⟨ad, h1, _, h3⟩ := h j u hj
  have hlt := cell_lt h3
  rw [add_block] at hlt
  exact ⟨ad, h1, by omega, h3⟩
def Small (oo of : List TL) : Prop := (oo ++ of).length ≤ 999000 ∧ ∀ x ∈ oo ++ of, x.d.length ≤ 10000
set_option maxHeartbeats 4000000 in
set_option maxRecDepth 100000 in
theorem bsplit (B : Nat) (w : World) (hb : Nat) (ro rw : Option Nat) (m : Nat) (oo wo of wf : List TL) (h : Bok B w hb ro rw m oo wo of wf) (hB : B ≤ w.heap.size) (hs : Small oo of) (s : ByteArray) :
    Calls Try.prog 8 #[.pointer (some ⟨hb, 0, none⟩), .string s] w fun e w' => e = .returned (.bool true) ∧ ∃ ro' rw' x y, Bok B w' hb ro' rw' m oo wo (of ++ [x]) (wf ++ [y]) ∧ x.d.length ≤ 8192 ∧ Fr (fun k => B ≤ k) w w' := by
  have H := Lib.hid h
  have HS := Lib.hid hs
  have HSW := Lib.hid (fun W => wSplit s W)
  have HSR := Lib.hid (fun W => rSplit s W)
  have hcount := splitL_count (bs s)
  obtain ⟨R, hR⟩ : ∃ R, splitL (bs s) = R := ⟨_, rfl⟩
  rw [hR] at HSW HSR hcount
  obtain ⟨ws, p, e⟩ := R
  dsimp only at hcount
  clear hR h hs
  go_enter Try.func8, Try.ntmps8
  go_wp2_with fail
  refine (HSW.out _).mono ?_
  rintro ee w1 ⟨A1, c1, rb1, rfl, hrow1, hF1, hn1⟩
  have HF1 := Lib.hid hF1
  have HR1 := Lib.hid hrow1
  have HN1 := Lib.hid hn1
  clear hF1 hrow1 hn1
  dsimp only at *
  go_wp2_with fail
  refine (HSR.out _).mono ?_
  rintro ee w2 ⟨A2, c2, rb2, rfl, hrow2, hF2, hn2⟩
  have HF12 := Lib.hid hF2
  have HF2 := Lib.hid (HF1.out.then_ hF2)
  have HR2 := Lib.hid hrow2
  have HLT := Lib.hid (show LT w2 ⟨A1, c1, rb1, ws⟩ from HR1.out.fr hF2 (fun _ _ q => q))
  clear hF2 hrow2 hn2
  dsimp only at *
  have hsz := HF2.out.size
  have HK := Lib.hid (bkeep B w2 hb ro rw m oo wo of wf (H.out.no HF2.out) (Nat.le_trans hB hsz) ⟨A1, c1, rb1, ws⟩ HLT.out (fun k hk => Nat.le_trans hB (HN1.out k hk)) (fun y hy k hk e => by
      have h1 := HN1.out k hk
      have h2 := (Row.bt (H.out.lr y hy) e).lt
      omega) (fun z hz k hk => (H.out.rd z hz).low HF2.out (HN1.out k hk)) (by have := HS.out.1; omega) (by show ws.length ≤ _; omega))
  unfold TL.v at HK
  dsimp only at HK
  go_wp2_with fail
  refine HK.out.mono ?_
  rintro ee w3 ⟨rfl, ro', rw', y, hbok, hyd, _, hF3⟩
  have HBOK := Lib.hid hbok
  have HF3 := Lib.hid (show Fr (fun k => B ≤ k) w w3 from (HF2.out.mono (S' := fun k => B ≤ k) (fun _ _ q => q.elim)).trans hF3 (fun k _ q => by
    rcases q with rfl | q | q
    · exact H.out.hbn
    · exact H.out.ron k q
    · exact H.out.rwn k q))
  have hx3 : LT w3 ⟨A1, c1, rb1, ws⟩ := hbok.lr _ (by simp)
  have hb2 : ∀ k, rb2 = some k → ¬ (k = hb ∨ ro = some k ∨ rw = some k) := fun k hk q => by
    obtain ⟨vo, vw, g1, g2, g3⟩ := (H.out.no HF2.out).bk
    rcases q with rfl | q | q
    · exact (HR2.out.bt hk).ne g1.bt (by decide) rfl
    · exact (HR2.out.bt hk).ne (g2.bt q) (by decide) rfl
    · exact (HR2.out.bt hk).ne (g3.bt q) (by decide) rfl
  have HTX := Lib.hid (wTexts A1 A2 ws.length c1 ws.length c2 ws ws rfl rfl (by omega) w3 (Row.tr (D := Any) hx3 (fun _ _ => trivial)) (Row.tr (D := Any) (HR2.out.fr hF3 hb2) (fun _ _ => trivial)))
  rw [show decide (ws = ws) = true from decide_eq_true rfl] at HTX
  clear hbok hyd hF3 hx3 hb2 HK
  go_wp2_with fail
  refine HTX.out.mono ?_
  rintro ee w4 ⟨rfl, hF4⟩
  have HB4 := Lib.hid (HBOK.out.no hF4)
  have HF4 := Lib.hid (show Fr (fun k => B ≤ k) w w4 from HF3.out.trans hF4 (fun _ _ q => q.elim))
  clear hF4
  have HHO := Lib.hid (bholds B w4 hb ro' rw' m oo wo (of ++ [⟨A1, c1, rb1, ws⟩]) (wf ++ [y]) HB4.out (by have := HS.out.1; rw [← List.append_assoc, List.length_append]; simp at this ⊢; omega) (fun z hz => by
    rw [← List.append_assoc] at hz
    rcases List.mem_append.1 hz with hz | hz
    · have := HS.out.2 z hz; omega
    · rw [List.mem_singleton.1 hz]; show ws.length ≤ _; omega))
  go_wp2_with fail
  refine HHO.out.mono ?_
  rintro ee w5 ⟨rfl, hF5⟩
  have HB5 := Lib.hid (HB4.out.no hF5)
  have HF5 := Lib.hid (show Fr (fun k => B ≤ k) w w5 from HF4.out.trans hF5 (fun _ _ q => q.elim))
  clear hF5
  go_wp2
  go_ret
  exact ⟨by simp, ro', rw', _, y, HB5.out, hcount, HF5.out⟩
end Go.Proofs.Ytdhlbdllidfenaa.Wd
