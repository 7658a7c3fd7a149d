/- A bag's calls: Take, New, Clone. Conditions: none. -/
import Derived.Test.YtilpffolldegbaaBagE
namespace Go.Proofs.Ytilpffolldegbaa.Bg
open Go.RowKit Go.Proofs.Ytilpffolldegbaa.Mem
set_option linter.unusedVariables false
set_option linter.unusedSimpArgs false

theorem PkC.fr0 {H : Nat → Prop} {w w1 : World} {p : Pk} {cs : List Value} (h : PkC H w p cs) (hf : Fr No w w1) : PkC H w1 p cs := h.fr hf (fun _ q => q.elim)
theorem bTake_none {H : Nat → Prop} {g : Nat} {rb : Option Nat} {s : St} (i : Int) (w : World) (hB : Bag H w g rb s) (hi : ¬ (0 ≤ i ∧ i < (s.ps.length : Int))) :
    Calls Try.prog 15 #[.pointer (some ⟨g, 0, none⟩), .int .i64 i] w fun e w' => e = .returned (.tuple #[.agg #[.int .i64 0, .int .i64 0, .int .i64 0, .int .i64 0, .int .i64 0, .slice none 0 0], .int .i64 152]) ∧ Fr No w w' := by
  obtain ⟨w1, hw1⟩ : ∃ w1, w.alloc (.cells #[.int .i64 0, .int .i64 0, .int .i64 0, .int .i64 0, .int .i64 0, .slice none 0 0] 31 (0, 0)) = w1 := ⟨_, rfl⟩
  have hF : Fr No w w1 := by rw [← hw1]; exact (Fr.refl _ _).alloc _
  have HZ := Lib.hid (show Bk w1 w.heap.size 31 [.int .i64 0, .int .i64 0, .int .i64 0, .int .i64 0, .int .i64 0, .slice none 0 0] by rw [← hw1]; exact Bk.new w _ _)
  have HAT := Lib.hid (bAt_none (H := H) (g := g) (rb := rb) (s := s) i w1 (hB.below hF.to) hi)
  have HF := Lib.hid hF
  have HW1 := Lib.hid hw1
  clear hB hi hF hw1
  go_enter Try.func15, Try.ntmps15
  go_wp2_with fail
  rw [HW1.out]
  refine HAT.out.mono ?_
  rintro e w2 ⟨rfl, hF2⟩
  have HF2 := Lib.hid (HF.out.then_ hF2)
  obtain ⟨z0, z1, z2, z3, z4, z5, zf⟩ := (HZ.out.fr hF2 id).six
  have hsz : w.heap.size < w2.heap.size := (HZ.out.fr hF2 id).lt
  clear hF2 HAT HW1 HF HZ
  go_wp2
  refine bodyPost_ret (v := .tuple #[.agg #[.int .i64 0, .int .i64 0, .int .i64 0, .int .i64 0, .int .i64 0, .slice none 0 0], .int .i64 152]) (by simp [results, Try.results15, go_sem, z0, z1, z2, z3, z4, z5, hsz]) rfl ⟨rfl, ?_⟩
  refine Fr.alloc ?_ _
  repeat (refine Fr.set ?_ (.inr (by simp)) _)
  exact HF2.out
theorem bTake_some {H : Nat → Prop} {g : Nat} {rb : Option Nat} {s : St} (k : Nat) (hk : k < s.ps.length) (w : World) (hB : Bag H w g rb s) (hn : s.ps[k].data.length ≤ 140737488355328) (hH : ∀ k, w.heap.size ≤ k → ¬ H k) :
    Calls Try.prog 15 #[.pointer (some ⟨g, 0, none⟩), .int .i64 (k : Int)] w fun e w' => ∃ b, e = .returned (.tuple #[.agg (s.ps[k].cells (some ⟨b, 0, none⟩) s.ps[k].data.length).toArray, .int .i64 0]) ∧ w.heap.size ≤ b ∧ Bk w' b 5 (bv s.ps[k].data) ∧
      Bag H w' g rb { s with ps := s.ps.eraseIdx k } ∧ Fr (Sg g rb) w w' := by
  obtain ⟨w1, hw1⟩ : ∃ w1, w.alloc (.cells #[.int .i64 0, .int .i64 0, .int .i64 0, .int .i64 0, .int .i64 0, .slice none 0 0] 31 (0, 0)) = w1 := ⟨_, rfl⟩
  have hF : Fr No w w1 := by rw [← hw1]; exact (Fr.refl _ _).alloc _
  have hs1 : w.heap.size ≤ w1.heap.size := hF.size
  have HZ := Lib.hid (show Bk w1 w.heap.size 31 [.int .i64 0, .int .i64 0, .int .i64 0, .int .i64 0, .int .i64 0, .slice none 0 0] by rw [← hw1]; exact Bk.new w _ _)
  have HAT := Lib.hid (bAt_some (H := H) (g := g) (rb := rb) (s := s) k hk w1 (hB.below hF.to) hn (fun j hj => hH j (by omega)))
  have HF := Lib.hid hF
  have HW1 := Lib.hid hw1
  have HB := Lib.hid hB
  obtain ⟨v, hg, hp⟩ := hB
  obtain ⟨r, rc, A, cap, hrb, rfl, hc, hl, hA, _⟩ := hp.at_ k hk
  have HP := Lib.hid hp
  have HG := Lib.hid hg
  obtain ⟨m, hm⟩ : ∃ m, s.ps.length = m + 1 := ⟨s.ps.length - 1, by omega⟩
  have HM := Lib.hid hm
  have hkm : k ≤ m := by omega
  have hw1' : IntKind.i64.wrap ((k : Int) + 1) = (k : Int) + 1 := by
    obtain ⟨ch, h2, _⟩ := hp
    have := h2.max
    unfold maxLen at this
    exact IntWalk.i64_in _ (by omega)
  generalize s.ps[k] = p at *
  obtain ⟨num, fr, to, age, turned, data⟩ := p
  unfold Pk.cells at *
  dsimp only at *
  subst hrb
  clear hF hw1 hg hp hA hl
  go_enter Try.func15, Try.ntmps15
  go_wp2_with fail
  rw [HW1.out]
  refine HAT.out.mono ?_
  rintro e w2 ⟨b, rfl, hb, hk2, hF2⟩
  have hF02 : Fr No w w2 := HF.out.then_ hF2
  have HF2 := Lib.hid hF02
  have HZ2 := Lib.hid (HZ.out.fr hF2 id)
  have HK2 := Lib.hid hk2
  have hsz : w.heap.size < w2.heap.size := (HZ.out.fr hF2 id).lt
  have hbz : b < w2.heap.size := hk2.lt
  have hbb : w.heap.size ≤ b := by omega
  have hG2 := HG.out.fr hF02 id
  rw [HM.out] at hG2
  have HP2 := Lib.hid (HP.out.fr hF02 (fun _ _ q => q) (fun _ q => q.elim))
  obtain ⟨g0, g1, g2, gf⟩ := hG2.three
  have hgz : g < w2.heap.size := hG2.lt
  clear hF2 HAT HW1 HF HZ hk2 hF02
  go_wp2_with fail
  obtain ⟨w3, hw3⟩ : ∃ w3, w2.alloc (.cells #[.int .i64 num, .int .i64 fr, .int .i64 to, .int .i64 age, .int .i64 turned, .slice (some ⟨b, 0, none⟩) data.length data.length] 31 (0, 0)) = w3 := ⟨_, rfl⟩
  have hF23 : Fr No w2 w3 := by rw [← hw3]; exact (Fr.refl _ _).alloc _
  have HX := Lib.hid (show Bk w3 w2.heap.size 31 [.int .i64 num, .int .i64 fr, .int .i64 to, .int .i64 age, .int .i64 turned, .slice (some ⟨b, 0, none⟩) data.length data.length] by rw [← hw3]; exact Bk.new w2 _ _)
  have HP3 := Lib.hid (HP2.out.fr hF23 (fun _ _ q => q) (fun _ q => q.elim))
  have hG3 := hG2.fr hF23 id
  rw [hw3]
  have HDEL := Lib.hid (pDelete (H := H) (ps := s.ps) (r := r) (c := rc) k m w3 HP3.out HM.out hkm)
  have HF3 := Lib.hid hF23
  have HG3 := Lib.hid hG3
  clear hw3 hF23 g0 g1 g2 gf hG2 hG3 HP2
  refine HDEL.out.mono ?_
  rintro e w4 ⟨rfl, hP4, hF4⟩
  have hrg : ¬ g = r := fun e => (HG.out.bt.ne (HP.out.bt rfl) (by decide)) e
  have hG4 := HG3.out.fr hF4 hrg
  obtain ⟨g0, g1, g2, gf⟩ := hG4.three
  have hr8 : ∀ q, q = r → ¬ w.heap.size ≤ q := fun q hq => by subst hq; have := (HP.out.bt rfl).lt; omega
  obtain ⟨z0, z1, z2, z3, z4, z5, zf⟩ := ((HZ2.out.fr HF3.out id).fr hF4 (fun e => hr8 _ e (Nat.le_refl _))).six
  obtain ⟨x0, x1, x2, x3, x4, x5, xf⟩ := (HX.out.fr hF4 (fun e => hr8 _ e (by omega))).six
  have hgs : g ≠ w.heap.size := fun e => by have := HG.out.lt; omega
  have hgs2 : g ≠ w2.heap.size := by omega
  have hzs2 : w.heap.size ≠ w2.heap.size := by omega
  have hgs' : w.heap.size ≠ g := fun e => hgs e.symm
  have hgs2' : w2.heap.size ≠ g := by omega
  have hzs2' : w2.heap.size ≠ w.heap.size := by omega
  have HP4 := Lib.hid hP4
  have HG4 := Lib.hid hG4
  have HF4 := Lib.hid hF4
  have HK4 := Lib.hid ((HK2.out.fr HF3.out id).fr hF4 (fun e => hr8 _ e hbb))
  have HR8 := Lib.hid hr8
  have HGS := Lib.hid hgs
  have hbw : b ≠ w.heap.size := HK2.out.bt.ne HZ2.out.bt (by decide)
  have hbg : b ≠ g := fun e => by have := HG.out.lt; omega
  have hzt : BT w4 w.heap.size 31 := (((HZ2.out.fr HF3.out id).fr hF4 (fun e => hr8 _ e (Nat.le_refl _)))).bt
  have HZT := Lib.hid hzt
  have HM4 := Lib.hid (show (s.ps.eraseIdx k).length = m by rw [List.length_eraseIdx, if_pos hk]; omega)
  have hrw : r ≠ w.heap.size := fun e => hr8 _ e.symm (Nat.le_refl _)
  have HF14 := Lib.hid (((HF2.out.mono (S' := Sg g (some r)) (fun _ _ q => q.elim)).trans (HF3.out) (fun _ _ q => q.elim)).trans hF4 (fun q _ e => .inr (by rw [e])))
  have hrg' : r ≠ g := fun e => hrg e.symm
  clear hP4 hG4 hF4 hr8 HDEL HX HZ2 HP3 HG3 hgs hzt
  go_wp2
  refine bodyPost_ret (v := .tuple #[.agg #[.int .i64 num, .int .i64 fr, .int .i64 to, .int .i64 age, .int .i64 turned, .slice (some ⟨b, 0, none⟩) data.length data.length], .int .i64 0]) (by simp [results, Try.results15, go_sem, z0, z1, z2, z3, z4, z5]) rfl ⟨b, rfl, hbb, ?_, ⟨.slice (some ⟨r, 0, none⟩) m rc, ?_, ?_⟩, ?_⟩
  · repeat (refine Bk.far ?_ (by show b ≠ _; first | exact hbw | exact hbg) _)
    exact HK4.out
  · repeat (refine Bk.far ?_ HGS.out _)
    exact HG4.out.set 2 _
  · refine HP4.out.fr (S := fun q => q = g ∨ q = w.heap.size) ?_ ?_ ?_
    · repeat (refine Fr.set ?_ (.inl (by simp)) _)
      exact Fr.refl _ _
    · intro q hq h
      cases hq
      rcases h with h | h
      · exact hrg' h
      · exact hrw h
    · intro q hq h8
      rcases hq with rfl | rfl
      · exact absurd rfl (HG4.out.bt.ne h8 (by decide))
      · exact absurd rfl (HZT.out.ne h8 (by decide))
  · repeat (refine Fr.set ?_ (by first | exact .inl (.inl rfl) | exact .inr (Nat.le_refl _)) _)
    exact HF14.out
end Go.Proofs.Ytilpffolldegbaa.Bg
