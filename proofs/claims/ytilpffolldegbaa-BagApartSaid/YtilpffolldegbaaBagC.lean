/- A bag's calls: Add, Dup, At. Conditions: none. -/
import Derived.Test.YtilpffolldegbaaBagB
namespace Go.Proofs.Ytilpffolldegbaa.Bg
open Go.RowKit Go.Proofs.Ytilpffolldegbaa.Mem
set_option linter.unusedVariables false
set_option linter.unusedSimpArgs false

def addS (s : St) (fr to : Int) (l : List UInt8) : St × Int := if endS fr = true ∧ endS to = true then layS s ⟨0, fr, to, 0, 0, l⟩ else (s, 151)
theorem bAdd {H : Nat → Prop} {g : Nat} {rb : Option Nat} {s : St} (fr to : Int) (A : Option Addr) (n c : Nat) (l : List UInt8) (w : World) (hl : l.length = n) (hn : n ≤ 140737488355328) (hA : BR Any w A l) (hH : ∀ k, w.heap.size ≤ k → ¬ H k)
    (hB : Bag H w g rb s) (hr : s.room ≤ 1024) (h0 : 0 ≤ s.laid) (h1 : s.laid ≤ 4611686018427387904) :
    Calls Try.prog 10 #[.pointer (some ⟨g, 0, none⟩), .int .i64 fr, .int .i64 to, .slice A n c] w fun e w' => ∃ rb', e = .returned (.int .i64 (addS s fr to l).2) ∧ Bag H w' g rb' (addS s fr to l).1 ∧ Fr (Sg g rb) w w' ∧ Nb w rb rb' := by
  have HB := Lib.hid hB
  have HA := Lib.hid hA
  have HL := Lib.hid hl
  have E1 := bend fr
  have E2 := bend to
  have HE1 := Lib.hid E1
  have HE2 := Lib.hid E2
  clear hB hA hl E1 E2
  by_cases hf : endS fr = true
  · by_cases ht : endS to = true
    · have hfin : addS s fr to l = layS s ⟨0, fr, to, 0, 0, l⟩ := if_pos ⟨hf, ht⟩
      rw [hfin]
      rw [hf] at HE1
      rw [ht] at HE2
      clear hfin hf ht
      go_enter Try.func10, Try.ntmps10
      go_wp2_with fail
      refine (HE1.out w).mono ?_
      rintro e w1 ⟨rfl, rfl⟩
      go_wp2_with fail
      refine (HE2.out w1).mono ?_
      rintro e w2 ⟨rfl, rfl⟩
      go_wp2_with fail
      refine (copied A n c l w2 HL.out hn HA.out).mono ?_
      rintro e w3 ⟨rfl, hk, hF⟩
      have HK := Lib.hid (show BR (T8 5 H w3) w3 (some ⟨w2.heap.size, 0, none⟩) l from BR.of_block hk ⟨hk.bt, hH _ (Nat.le_refl _)⟩)
      have HF := Lib.hid hF
      have HB3 := Lib.hid (HB.out.below hF.to)
      clear hk hF
      go_wp2_with fail
      have hlay := blay (H := H) (g := g) (rb := rb) (s := s) ⟨0, fr, to, 0, 0, l⟩ (some ⟨w2.heap.size, 0, none⟩) n w3 (Nat.le_of_eq HL.out) HK.out HB3.out hr h0 h1
      unfold Pk.cells at hlay
      dsimp only at hlay
      rw [HL.out] at hlay
      refine hlay.mono ?_
      clear hlay
      rintro e w4 ⟨rb', rfl, hB4, hF4, hnb⟩
      have HB4 := Lib.hid hB4
      have HF4 := Lib.hid ((HF.out.mono (S' := Sg g rb) (fun _ _ q => q.elim)).then_ hF4)
      have HNB := Lib.hid (hnb.new HF.out.size)
      clear hB4 hF4 hnb
      go_wp2
      go_ret
      exact ⟨rb', rfl, HB4.out, HF4.out, HNB.out⟩
    · have hfin : addS s fr to l = (s, 151) := if_neg (fun h => ht h.2)
      rw [hfin]
      have ht' : endS to = false := by simpa using ht
      rw [hf] at HE1
      rw [ht'] at HE2
      clear hfin hf ht ht'
      go_enter Try.func10, Try.ntmps10
      go_wp2_with fail
      refine (HE1.out w).mono ?_
      rintro e w1 ⟨rfl, rfl⟩
      go_wp2_with fail
      refine (HE2.out w1).mono ?_
      rintro e w2 ⟨rfl, rfl⟩
      go_wp2
      go_ret
      exact ⟨rb, rfl, HB.out, Fr.refl _ _, .inl rfl⟩
  · have hfin : addS s fr to l = (s, 151) := if_neg (fun h => hf h.1)
    rw [hfin]
    have hf' : endS fr = false := by simpa using hf
    rw [hf'] at HE1
    clear hfin hf hf'
    go_enter Try.func10, Try.ntmps10
    go_wp2_with fail
    refine (HE1.out w).mono ?_
    rintro e w1 ⟨rfl, rfl⟩
    go_wp2
    go_ret
    exact ⟨rb, rfl, HB.out, Fr.refl _ _, .inl rfl⟩
/-- a packet at a place, where there is one -/
def dupS (s : St) (i : Int) : St × Int := match (if 0 ≤ i then s.ps[i.toNat]? else none) with
  | some p => layS s p
  | none => (s, 152)
theorem bDup {H : Nat → Prop} {g : Nat} {rb : Option Nat} {s : St} (i : Int) (w : World) (hB : Bag H w g rb s) (hr : s.room ≤ 1024) (h0 : 0 ≤ s.laid) (h1 : s.laid ≤ 4611686018427387904) :
    Calls Try.prog 30 #[.pointer (some ⟨g, 0, none⟩), .int .i64 i] w fun e w' => ∃ rb', e = .returned (.int .i64 (dupS s i).2) ∧ Bag H w' g rb' (dupS s i).1 ∧ Fr (Sg g rb) w w' ∧ Nb w rb rb' := by
  have HB := Lib.hid hB
  have HT := Lib.hid (bthere i w hB)
  by_cases hi : 0 ≤ i ∧ i < (s.ps.length : Int)
  · obtain ⟨k, rfl⟩ := Int.eq_ofNat_of_zero_le hi.1
    have hk : k < s.ps.length := by omega
    have ht : thereS s.ps.length (k : Int) = true := decide_eq_true hi
    rw [ht] at HT
    have hfin : dupS s (k : Int) = layS s s.ps[k] := by
      unfold dupS
      rw [if_pos (by omega), Int.toNat_natCast, List.getElem?_eq_getElem hk]
    rw [hfin]
    obtain ⟨v, hg, hp⟩ := hB
    obtain ⟨r, rc, A, cap, hrb, rfl, hc, hl, hA, x0, x1, x2, x3, x4, x5, hfz⟩ := hp.at_ k hk
    have hLAY := Lib.hid (blay (H := H) (g := g) (rb := rb) (s := s) s.ps[k] A cap w hl hA HB.out hr h0 h1)
    generalize s.ps[k] = p at *
    generalize layS s p = z at *
    obtain ⟨num, fr, to, age, turned, data⟩ := p
    unfold Pk.cells at hLAY
    dsimp only at *
    obtain ⟨_, _, g2, _⟩ := hg.three
    have hkl : (k : Int) < (s.ps.length : Int) := by omega
    clear hfz hA hl hp hg ht hfin hi
    go_enter Try.func30, Try.ntmps30
    go_wp2_with fail
    refine HT.out.mono ?_
    rintro e w1 ⟨rfl, rfl⟩
    go_wp2_with fail
    refine hLAY.out.mono ?_
    rintro e w4 ⟨rb', rfl, hB4, hF4, hnb⟩
    have HB4 := Lib.hid hB4
    have HF4 := Lib.hid hF4
    have HNB := Lib.hid hnb
    clear hB4 hF4 hnb
    go_wp2
    go_ret
    exact ⟨rb', rfl, HB4.out, HF4.out, HNB.out⟩
  · have ht : thereS s.ps.length i = false := decide_eq_false hi
    rw [ht] at HT
    have hfin : dupS s i = (s, 152) := by
      unfold dupS
      split
      · rename_i p hp
        split at hp
        · have := (List.getElem?_eq_some_iff.1 hp).1
          omega
        · cases hp
      · rfl
    rw [hfin]
    clear hfin hi ht
    go_enter Try.func30, Try.ntmps30
    go_wp2_with fail
    refine HT.out.mono ?_
    rintro e w1 ⟨rfl, rfl⟩
    go_wp2
    go_ret
    exact ⟨rb, rfl, HB.out, Fr.refl _ _, .inl rfl⟩
end Go.Proofs.Ytilpffolldegbaa.Bg
