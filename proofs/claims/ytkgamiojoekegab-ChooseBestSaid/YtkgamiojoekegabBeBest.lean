/- The law ChooseBest: its walk. Conditions: none. -/
import Derived.Test.YtkgamiojoekegabBeQ
import Derived.Test.YtkgamiojoekegabBeO
namespace Go.Proofs.Ytkgamiojoekegab.Be
open Go.RowKit Go.Proofs.YtkgamiojoekegabW.PrintWords Go.Proofs.Ytkgamiojoekegab.PChooseBest
set_option linter.unusedVariables false

set_option maxHeartbeats 2000000 in
set_option maxRecDepth 100000 in
theorem best_walk (n : Int) (A : Option Addr) (c : Nat) (l : List S26) (w : World) (hA : Kd.C k26 w A l.length l) (hc : l.length ≤ c) (hb : c * 32 ≤ 140737488351232) (hnn : A = none → c = 0) :
    Calls Try.prog 3 #[.int .i64 n, .slice A l.length c] w fun e w' => e = .returned (.bool true) ∧ Below w.heap.size w w' := by
  have hl : l.length ≤ 4398046510976 := by omega
  have HW := Lib.hid (ballots13 A c l w hA hc hb hnn)
  have hC := Lib.hid hA
  clear hA hnn
  go_enter Try.func3, Try.ntmps3
  go_wp2_with fail
  refine HW.out.mono ?_
  rintro e w1 ⟨g, cap, rfl, hcap, hO, hB1⟩
  have hR := Lib.hid hO.row
  have hg0 := Lib.hid (hO.base g rfl)
  have HRD := Lib.hid (fun (W : World) (hB : Below w.heap.size w W) (hr : Row W g cap (l ++ [mk9, mk9])) => best14 n g cap A c l W (Kd.C_below hC.out hB) hc hcap (by omega) ⟨0, hr.own _ (by simp)⟩)
  clear HW hO
  go_wp2_with fail
  refine (HRD.out _ hB1 hR.out).mono ?_
  rintro e w2 ⟨rfl, hb2⟩
  have hB2 : Below w.heap.size w w2 := hB1.trans (hb2.mono hB1.size)
  have hR2 := Lib.hid (hR.out.keep (hb2.block g hR.out.lt))
  clear hb2 hR hB1
  go_wp2_with fail
  refine (HRD.out _ hB2 hR2.out).mono ?_
  rintro e w3 ⟨rfl, hb3⟩
  have hB3 : Below w.heap.size w w3 := hB2.trans (hb3.mono hB2.size)
  have hR3 := Lib.hid (hR2.out.keep (hb3.block g hR2.out.lt))
  have hg3 := hR3.out.lt
  have hgw := hg0.out
  clear hb3 hR2 hB2 HRD
  obtain ⟨b3, hb3⟩ : ∃ b3, w3.heap.size = b3 := ⟨_, rfl⟩
  have HB3 := Lib.hid hb3
  have hbsz := hB3.size
  rw [hb3] at hg3 hbsz
  clear hb3
  go_wp2
  go_loopw [6, 24] (fun v i wr => ∃ k : Nat, k ≤ l.length ∧ i = .int .i64 k ∧ Own wr b3 v (l.reverse.take k) ∧ Hid (Row wr g cap (l ++ [mk9, mk9])) ∧ b3 ≤ wr.heap.size ∧ Below w.heap.size w wr) (fun _ i _ => l.length - (intOf i).toNat)
  case atStart => exact ⟨0, Nat.zero_le _, rfl, Own.nil _ _, hR3, by rw [HB3.out]; exact Nat.le_refl _, hB3⟩
  case round =>
    clear hR3 hB3 HB3
    obtain ⟨k, hk, rfl, hO, hR, hbw, hB⟩ := hrel
    have HO := Lib.hid hO
    clear hO
    by_cases hlt : k < l.length
    · have HRV := Lib.hid (rev_take l k hlt)
      obtain ⟨ad, ha, g0, g1, g2, g3⟩ := at_T26 (Kd.C_below hC.out hB) ((l.length - 1 - k : Nat) : Int) (by omega) (by omega)
      subst ha
      simp only [Int.toNat_natCast] at g0 g1 g2 g3
      obtain ⟨y, hy⟩ : ∃ y, rd_T26 l ((l.length - 1 - k : Nat) : Int) = y := ⟨_, rfl⟩
      rw [hy] at g0 g1 g2 g3 HRV
      clear hy
      have HTL := Lib.hid (show (l.reverse.take k).length = k by simp; omega)
      go_wp2_with (at_builtin; refine append26 rfl (.tmp 27) (.tmp 36) rfl b3 _ (l.reverse.take k) rfl (HO.out.alloc _) ⟨wr.heap.size, 0, none⟩ 1 1 [y] rfl rfl (cells_lit wr y) (by rw [HTL.out]; simp; omega) (by simp; omega) ?_)
      intro v' w' hown hg
      have hR' := Lib.hid (hR.out.keep ((hg.block g (by have := hR.out.lt; simp; omega) (fun e => by have := HO.out.base g e.symm; omega)).trans (Below.heap_alloc _ _ _ hR.out.lt)))
      have hB' : Below w.heap.size w w' := (hB.alloc hB.size _).grown hg (by have := hB.size; simp; omega) (fun k hk => by have := HO.out.base k hk; omega)
      have hbw' : b3 ≤ w'.heap.size := by have := hg.size; simp at this; omega
      replace hown : Own w' b3 v' (l.reverse.take (k + 1)) := by rw [HRV.out]; exact hown
      have HO' := Lib.hid hown
      clear hown hg hR hB hbw HO HRV HTL g0 g1 g2 g3
      go_wp2
      go_roundw
      case rel => exact ⟨k + 1, by omega, by go_num, HO'.out, hR', hbw', hB'⟩
      case measure => simp [intOf]; omega
    · obtain rfl : k = l.length := by omega
      have hO := HO.out
      rw [show l.reverse.take l.length = l.reverse by rw [← List.length_reverse, List.take_length]] at hO
      obtain ⟨A3, c3, hv, hC3, hc3⟩ := hO.reads (by simp; omega)
      rw [List.length_reverse] at hv hC3 hc3
      rw [hv] at hO HO ⊢
      clear hv HO
      obtain ⟨cur, hcur, hsz, hov⟩ := Row.over (l' := l.reverse) hR.out (by simp)
      have hB9' := below_setRow hB hgw (cur.toList.take 0 ++ cells26 l.reverse ++ cur.toList.drop (0 + (cells26 l.reverse).length)).toArray
      have hso : ∀ k, k ≠ g → (wr.setRow g (cur.toList.take 0 ++ cells26 l.reverse ++ cur.toList.drop (0 + (cells26 l.reverse).length)).toArray).heap[k]? = wr.heap[k]? := fun k hk => setRow_other _ _ _ _ hk
      obtain ⟨w8, hw8⟩ : ∃ w8, wr.setRow g (cur.toList.take 0 ++ cells26 l.reverse ++ cur.toList.drop (0 + (cells26 l.reverse).length)).toArray = w8 := ⟨_, rfl⟩
      rw [hw8] at hov hB9' hso
      have HW8 := Lib.hid hw8
      have HSO := Lib.hid hso
      have HB9 := Lib.hid hB9'
      clear hw8 hso hB9'
      have hne : ∀ k, (Value.slice A3 l.length c3).ownBlock = some k → k ≠ g := fun k hk => by have := hO.base k hk; omega
      have hmin : l.length = Nat.min l.length l.length := by simp
      have HMIN := Lib.hid hmin
      have HOV := Lib.hid hov
      have HSZ := Lib.hid hsz
      have HCUR := Lib.hid hcur
      clear hov hsz hcur hmin
      have HRD := Lib.hid (fun (W : World) (hC : Kd.C k26 W A3 l.length l.reverse) (hr : Row W g cap (l.reverse ++ [mk9, mk9])) => best14 n g cap A3 c3 l.reverse W (by rw [List.length_reverse]; exact hC) (by simpa using hc3) (by simpa using hcap) (by simp; omega) ⟨0, hr.own _ (by simp)⟩)
      simp only [List.length_reverse] at HRD
      by_cases h0 : l.length = 0
      · obtain rfl : l = [] := List.eq_nil_of_length_eq_zero h0
        go_wp2_with (refine wpList_copy_zero rfl (.tmp 39) (.tmp 40) 22 22 rfl 26 Try.underlying22 (by kernel_rfl) (some ⟨g, 0, none⟩) A3 _ cap _ c3 rfl rfl (by simp) ?_)
        refine (HRD.out _ hC3 (by simpa using hR.out)).mono ?_
        rintro e w9 ⟨rfl, hB9⟩
        go_wp2
        go_ret
        exact ⟨rfl, hB.trans (hB9.mono hB.size)⟩
      · have hA3 : ∃ a3, A3 = some a3 := by obtain ⟨ad, e, _⟩ := hC3.2.2 (by omega); exact ⟨ad, e⟩
        obtain ⟨a3, rfl⟩ := hA3
        have HCS := Lib.hid (C_cells hC3)
        go_wp2_with (refine wpList_copy_cells rfl (.tmp 39) (.tmp 40) 22 22 rfl 26 4 Try.underlying22 (by kernel_rfl) g 0 l.length cap a3 l.length c3 rfl rfl cur 26 HCUR.out (cells26 l.reverse) l.length HMIN.out (by rw [cells26_length, List.length_reverse]) HCS.out (by have := HSZ.out; omega) (cells26_one _) ?_; rw [HW8.out])
        refine (HRD.out _ ?_ HOV.out).mono ?_
        · have h1 := Own.readsAt (own_move hO (fun k hk => HSO.out k (hne k hk))) (by simp; omega)
          rwa [List.length_reverse] at h1
        rintro e w9 ⟨rfl, hB9⟩
        have hB' := HB9.out
        go_wp2
        go_ret
        exact ⟨rfl, hB'.trans (hB9.mono hB'.size)⟩
theorem best_row (w : World) (n : Int) (_hn : (Lit.int .i64 n).wf = true) (A : Option Addr) (c : Nat) (l : List S26) (hA : Kd.C k26 w A l.length l)
    (h1 : l.length ≤ c) (h2 : c * 32 ≤ 140737488351232) (_h3 : ∀ p ∈ l, Opn.Wf26 p) (hnn : A = none → c = 0) :
    Calls Try.prog 3 #[.int .i64 n, .slice A l.length c] w fun e w' => e = .returned (.bool true) ∧ Below w.heap.size w w' := best_walk n A c l w hA h1 h2 hnn
end Go.Proofs.Ytkgamiojoekegab.Be
