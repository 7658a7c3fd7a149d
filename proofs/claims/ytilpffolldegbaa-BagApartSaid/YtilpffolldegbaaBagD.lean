/- A bag's calls: At, deleting a packet, Take. Conditions: none. -/
import Derived.Test.YtilpffolldegbaaBagC
namespace Go.Proofs.Ytilpffolldegbaa.Bg
open Go.RowKit Go.Proofs.Ytilpffolldegbaa.Mem
set_option linter.unusedVariables false
set_option linter.unusedSimpArgs false

theorem bAt_none {H : Nat → Prop} {g : Nat} {rb : Option Nat} {s : St} (i : Int) (w : World) (hB : Bag H w g rb s) (hi : ¬ (0 ≤ i ∧ i < (s.ps.length : Int))) :
    Calls Try.prog 12 #[.pointer (some ⟨g, 0, none⟩), .int .i64 i] w fun e w' => e = .returned (.tuple #[.agg #[.int .i64 0, .int .i64 0, .int .i64 0, .int .i64 0, .int .i64 0, .slice none 0 0], .bool false]) ∧ Fr No w w' := by
  have HT := Lib.hid (fun W => bthere (H := H) (g := g) (rb := rb) (s := s) i W)
  have ht : thereS s.ps.length i = false := decide_eq_false hi
  rw [ht] at HT
  have hF : Fr No w (w.alloc (.cells #[.int .i64 0, .int .i64 0, .int .i64 0, .int .i64 0, .int .i64 0, .slice none 0 0] 31 (0, 0))) := (Fr.refl _ _).alloc _
  have HB := Lib.hid (hB.below hF.to)
  have HZ := Lib.hid (Bk.new w 31 [.int .i64 0, .int .i64 0, .int .i64 0, .int .i64 0, .int .i64 0, .slice none 0 0])
  have HF := Lib.hid hF
  clear hB ht hi hF
  go_enter Try.func12, Try.ntmps12
  go_wp2_with fail
  refine (HT.out _ HB.out).mono ?_
  rintro e w1 ⟨rfl, hw⟩
  rw [← hw] at HF HZ
  clear hw
  obtain ⟨z0, z1, z2, z3, z4, z5, zf⟩ := HZ.out.six
  go_wp2
  refine bodyPost_ret (v := .tuple #[.agg #[.int .i64 0, .int .i64 0, .int .i64 0, .int .i64 0, .int .i64 0, .slice none 0 0], .bool false]) (by simp [results, Try.results12, go_sem, z0, z1, z2, z3, z4, z5]) rfl ⟨rfl, ?_⟩
  repeat (refine Fr.set ?_ (.inr (by simp)) _)
  exact HF.out
theorem bAt_some {H : Nat → Prop} {g : Nat} {rb : Option Nat} {s : St} (k : Nat) (hk : k < s.ps.length) (w : World) (hB : Bag H w g rb s) (hn : s.ps[k].data.length ≤ 140737488355328) (hH : ∀ k, w.heap.size ≤ k → ¬ H k) :
    Calls Try.prog 12 #[.pointer (some ⟨g, 0, none⟩), .int .i64 (k : Int)] w fun e w' => ∃ b, e = .returned (.tuple #[.agg (s.ps[k].cells (some ⟨b, 0, none⟩) s.ps[k].data.length).toArray, .bool true]) ∧ w.heap.size ≤ b ∧ Bk w' b 5 (bv s.ps[k].data) ∧ Fr No w w' := by
  have HT := Lib.hid (fun W => bthere (H := H) (g := g) (rb := rb) (s := s) k W)
  have ht : thereS s.ps.length k = true := decide_eq_true (by omega)
  rw [ht] at HT
  have hF : Fr No w (w.alloc (.cells #[.int .i64 0, .int .i64 0, .int .i64 0, .int .i64 0, .int .i64 0, .slice none 0 0] 31 (0, 0))) := (Fr.refl _ _).alloc _
  have HB := Lib.hid (hB.below hF.to)
  have HZ := Lib.hid (Bk.new w 31 [.int .i64 0, .int .i64 0, .int .i64 0, .int .i64 0, .int .i64 0, .slice none 0 0])
  have HF := Lib.hid hF
  have hH1 : ∀ k, w.heap.size + 1 ≤ k → ¬ H k := fun k hk => hH k (by omega)
  have HH := Lib.hid hH1
  have hs1 : (w.alloc (.cells #[.int .i64 0, .int .i64 0, .int .i64 0, .int .i64 0, .int .i64 0, .slice none 0 0] 31 (0, 0))).heap.size = w.heap.size + 1 := by simp
  have HS := Lib.hid hs1
  obtain ⟨w1, hw1⟩ : ∃ w1, w.alloc (.cells #[.int .i64 0, .int .i64 0, .int .i64 0, .int .i64 0, .int .i64 0, .slice none 0 0] 31 (0, 0)) = w1 := ⟨_, rfl⟩
  have HW1 := Lib.hid hw1
  rw [show [Value.int .i64 0, .int .i64 0, .int .i64 0, .int .i64 0, .int .i64 0, .slice none 0 0].toArray = #[.int .i64 0, .int .i64 0, .int .i64 0, .int .i64 0, .int .i64 0, .slice none 0 0] from rfl] at HZ
  rw [hw1] at HF HZ HB HS
  clear hB ht hF hH hH1 hs1 hw1
  obtain ⟨v, hg, hp⟩ := HB.out
  obtain ⟨r, rc, A, cap, hrb, rfl, hc, hl, hA, x0, x1, x2, x3, x4, x5, hfz⟩ := hp.at_ k hk
  have HTOLD := Lib.hid (btold (H := H) s.ps[k] A cap w1 hl hn hA (fun k hk => HH.out k (by have := HS.out; omega)))
  obtain ⟨_, _, g2, _⟩ := hg.three
  have hkl : (k : Int) < (s.ps.length : Int) := by omega
  generalize s.ps[k] = p at *
  obtain ⟨num, fr, to, age, turned, data⟩ := p
  unfold Pk.cells at *
  dsimp only at *
  clear hfz hA hl hg hp
  go_enter Try.func12, Try.ntmps12
  go_wp2_with fail
  rw [HW1.out]
  refine (HT.out _ HB.out).mono ?_
  rintro e w2 ⟨rfl, rfl⟩
  clear HW1
  go_wp2_with fail
  refine HTOLD.out.mono ?_
  rintro e w3 ⟨b, rfl, hb, hk3, hF3⟩
  obtain ⟨z0, z1, z2, z3, z4, z5, zf⟩ := (HZ.out.fr hF3 id).six
  have hbz : b ≠ w.heap.size := fun e => absurd rfl (hk3.bt.ne (e ▸ (HZ.out.fr hF3 id).bt) (by decide))
  have HK := Lib.hid hk3
  have HF2 := Lib.hid (HF.out.then_ hF3)
  have hb' : w.heap.size ≤ b := by have := HS.out; omega
  clear hk3 hF3 x0 x1 x2 x3 x4 x5 g2 HB HTOLD
  go_wp2
  refine bodyPost_ret (v := .tuple #[.agg #[.int .i64 num, .int .i64 fr, .int .i64 to, .int .i64 age, .int .i64 turned, .slice (some ⟨b, 0, none⟩) data.length data.length], .bool true]) (by simp [results, Try.results12, go_sem, z0, z1, z2, z3, z4, z5]) rfl ⟨b, rfl, hb', ?_, ?_⟩
  · repeat (refine Bk.far ?_ hbz _)
    exact HK.out
  · repeat (refine Fr.set ?_ (.inr (by simp)) _)
    exact HF2.out
end Go.Proofs.Ytilpffolldegbaa.Bg
