/- The document's tally: New and Clone; a number as a text; which of n things: walked (printed by a program of ours). Conditions: none. -/
import Derived.Test.YtobnehbcnlhchaaVtR
import Derived.Deep.RegionLaw
import Derived.Lib.ConvBytes
import Derived.Deep.OwnRows
namespace Go.Proofs.Ytobnehbcnlhchaa.Vt
open Go.RowKit Go.Proofs.Ytobnehbcnlhchaa.Mem
set_option linter.unusedVariables false
set_option linter.unusedSimpArgs false
theorem RT.mk3 {w : World} {r s p n : Nat} {said : List Int} {spoke : List Bool} (hr : Bk w r 103 [.slice (some ⟨s, 0, none⟩) n n, .slice (some ⟨p, 0, none⟩) n n]) (hs : Bk w s 3 (iv said)) (hp : Bk w p 4 (bb spoke)) (h1 : said.length = n) (h2 : spoke.length = n) (hn : n ≤ 7) : RT w r s p n said spoke :=
  ⟨n, n, hr, Row.shut (sp := []) (by rw [List.append_nil]; exact hs) (by rw [iv, List.length_map, h1, Nat.mul_one]) (by simp) (Nat.le_refl _) (by unfold maxLen; omega), Row.shut (sp := []) (by rw [List.append_nil]; exact hp) (by rw [bb, List.length_map, h2, Nat.mul_one]) (by simp) (Nat.le_refl _) (by unfold maxLen; omega)⟩
/-- a document's tally that was made: its blocks are new -/
def RNew (w w' : World) (n : Nat) (said : List Int) (spoke : List Bool) (r s p : Nat) : Prop := RT w' r s p n said spoke ∧ w.heap.size ≤ r ∧ w.heap.size ≤ s ∧ w.heap.size ≤ p ∧ Fr No w w'
theorem rNew_no (n : Int) (h : n < 1 ∨ 7 < n) (w : World) : Calls Try.prog 38 #[.int .i64 n] w fun e w' => e = .returned (.tuple #[.pointer none, .int .i64 40]) ∧ w' = w := by
  by_cases h1 : n < 1
  · have d1 : decide (n < 1) = true := decide_eq_true h1
    go_enter Try.func38, Try.ntmps38
    go_wp2
    go_ret2
    exact ⟨rfl, rfl⟩
  · have d1 : decide (n < 1) = false := decide_eq_false h1
    have d2 : decide (7 < n) = true := decide_eq_true (by omega)
    go_enter Try.func38, Try.ntmps38
    go_wp2
    go_ret2
    exact ⟨rfl, rfl⟩
theorem info3 : (Try.prog.info? 3).map (fun i => (i.zero, i.size, i.bytes)) = some (some (.int .i64 0), 1, 8) := by kernel_rfl
theorem info4 : (Try.prog.info? 4).map (fun i => (i.zero, i.size, i.bytes)) = some (some (.bool false), 1, 1) := by kernel_rfl
theorem made_cells (z : Value) (n : Nat) : madeCells #[z] n = (List.replicate n z).toArray := by
  apply Array.ext
  · simp [size_madeCells]
  · intro i h1 h2
    simp [madeCells, Nat.mod_one]
theorem rnew_A (w : World) (n : Nat) (said : List Int) (spoke : List Bool) (h1 : said.length = n) (h2 : spoke.length = n) (h7 : n ≤ 7) : RNew w ((((w.alloc (.cells (iv said).toArray 3 (0, 0))).alloc (.cells (bb spoke).toArray 4 (0, 0))).alloc (.cells #[.slice (some ⟨w.heap.size, 0, none⟩) n n, .slice (some ⟨w.heap.size + 1, 0, none⟩) n n] 103 (0, 0))).drew) n said spoke (w.heap.size + 2) w.heap.size (w.heap.size + 1) := by
  have z1 : (w.alloc (.cells (iv said).toArray 3 (0, 0))).heap.size = w.heap.size + 1 := by simp
  have z2 : ((w.alloc (.cells (iv said).toArray 3 (0, 0))).alloc (.cells (bb spoke).toArray 4 (0, 0))).heap.size = w.heap.size + 2 := by simp
  refine ⟨RT.mk3 ?_ ?_ ?_ h1 h2 h7, by omega, by omega, by omega, ((((Fr.refl _ _).alloc _).alloc _).alloc _).drew⟩
  · rw [← z2]; exact Bk.new ((w.alloc (.cells (iv said).toArray 3 (0, 0))).alloc (.cells (bb spoke).toArray 4 (0, 0))) 103 [.slice (some ⟨w.heap.size, 0, none⟩) n n, .slice (some ⟨w.heap.size + 1, 0, none⟩) n n]
  · exact ((Bk.new w 3 (iv said)).alloc _).alloc _
  · rw [← z1]; exact (Bk.new (w.alloc (.cells (iv said).toArray 3 (0, 0))) 4 (bb spoke)).alloc _
theorem rnew_B (w : World) (n : Nat) (said : List Int) (spoke : List Bool) (h1 : said.length = n) (h2 : spoke.length = n) (h7 : n ≤ 7) : RNew w ((((w.alloc (.cells (bb spoke).toArray 4 (0, 0))).alloc (.cells (iv said).toArray 3 (0, 0))).alloc (.cells #[.slice (some ⟨w.heap.size + 1, 0, none⟩) n n, .slice (some ⟨w.heap.size, 0, none⟩) n n] 103 (0, 0))).drew) n said spoke (w.heap.size + 2) (w.heap.size + 1) w.heap.size := by
  have z1 : (w.alloc (.cells (bb spoke).toArray 4 (0, 0))).heap.size = w.heap.size + 1 := by simp
  have z2 : ((w.alloc (.cells (bb spoke).toArray 4 (0, 0))).alloc (.cells (iv said).toArray 3 (0, 0))).heap.size = w.heap.size + 2 := by simp
  refine ⟨RT.mk3 ?_ ?_ ?_ h1 h2 h7, by omega, by omega, by omega, ((((Fr.refl _ _).alloc _).alloc _).alloc _).drew⟩
  · rw [← z2]; exact Bk.new ((w.alloc (.cells (bb spoke).toArray 4 (0, 0))).alloc (.cells (iv said).toArray 3 (0, 0))) 103 [.slice (some ⟨w.heap.size + 1, 0, none⟩) n n, .slice (some ⟨w.heap.size, 0, none⟩) n n]
  · rw [← z1]; exact (Bk.new (w.alloc (.cells (bb spoke).toArray 4 (0, 0))) 3 (iv said)).alloc _
  · exact ((Bk.new w 4 (bb spoke)).alloc _).alloc _
set_option maxHeartbeats 1000000 in
theorem rNew_ (n : Nat) (h1 : 1 ≤ n) (h7 : n ≤ 7) (w : World) : Calls Try.prog 38 #[.int .i64 (n : Int)] w fun e w' => ∃ r s p, e = .returned (.tuple #[.pointer (some ⟨r, 0, none⟩), .int .i64 0]) ∧ RNew w w' n (List.replicate n 0) (List.replicate n false) r s p := by
  have hm1 := run_make_row' (P := Try.prog) 22 3 (.int .i64 0) 8 Try.underlying22 info3 rfl .i64 .i64 n (by omega) (by omega)
  have hm2 := run_make_row' (P := Try.prog) 101 4 (.bool false) 1 Try.underlying101 info4 rfl .i64 .i64 n (by omega) (by omega)
  obtain ⟨X, hX⟩ : ∃ X, madeCells #[Value.int .i64 0] n = X := ⟨_, rfl⟩
  obtain ⟨Y, hY⟩ : ∃ Y, madeCells #[Value.bool false] n = Y := ⟨_, rfl⟩
  rw [hX] at hm1
  rw [hY] at hm2
  have HX := Lib.hid (show X = (iv (List.replicate n 0)).toArray by rw [← hX, made_cells, iv, List.map_replicate])
  have HY := Lib.hid (show Y = (bb (List.replicate n false)).toArray by rw [← hY, made_cells, bb, List.map_replicate])
  have d1 : decide ((n : Int) < 1) = false := decide_eq_false (by omega)
  have d2 : decide (7 < (n : Int)) = false := decide_eq_false (by omega)
  have d3 : decide (7 < n) = false := decide_eq_false (by omega)
  have d4 : decide (n < 1) = false := decide_eq_false (by omega)
  clear hX hY
  go_enter Try.func38, Try.ntmps38
  go_wp2
  go_region
  all_goals
    go_wp2
    go_ret2
    rw [HX.out, HY.out]
    first
      | exact ⟨_, _, _, rfl, rnew_A w n (List.replicate n 0) (List.replicate n false) (by simp) (by simp) h7⟩
      | exact ⟨_, _, _, rfl, rnew_B w n (List.replicate n 0) (List.replicate n false) (by simp) (by simp) h7⟩
set_option maxHeartbeats 2000000 in
theorem rClone_ {w : World} {r s p n : Nat} {said : List Int} {spoke : List Bool} (h : RT w r s p n said spoke) (h1 : 1 ≤ n) (h7 : n ≤ 7) :
    Calls Try.prog 18 #[.pointer (some ⟨r, 0, none⟩)] w fun e w' => ∃ r' s' p', e = .returned (.pointer (some ⟨r', 0, none⟩)) ∧ RNew w w' n said spoke r' s' p' := by
  obtain ⟨hl1, hl2⟩ := h.len
  obtain ⟨cs, cp, hb, hs, hp⟩ := h
  have HR := Lib.hid (fun W (hW : Fr No w W) => Bk.two (hb.fr hW id))
  have HS := Lib.hid (fun W (hW : Fr No w W) => show ∃ ad, some (⟨s, 0, none⟩ : Addr) = some ad ∧ ∀ (j : Nat) (u : Value), (iv said)[j]? = some u → W.cell? (ad.add j) = some u from ⟨_, rfl, fun j u hj => by rw [add0]; exact (row_cell (hs.fr hW (fun _ _ q => q)) hj).1⟩)
  have HP := Lib.hid (fun W (hW : Fr No w W) => show ∃ ad, some (⟨p, 0, none⟩ : Addr) = some ad ∧ ∀ (j : Nat) (u : Value), (bb spoke)[j]? = some u → W.cell? (ad.add j) = some u from ⟨_, rfl, fun j u hj => by rw [add0]; exact (row_cell (hp.fr hW (fun _ _ q => q)) hj).1⟩)
  have HL1 := Lib.hid (show (iv said).length = n * 1 by rw [iv, List.length_map, hl1, Nat.mul_one])
  have HL2 := Lib.hid (show (bb spoke).length = n * 1 by rw [bb, List.length_map, hl2, Nat.mul_one])
  obtain ⟨r0, r1, rf⟩ := hb.two
  clear hb hs hp hl1 hl2
  go_enter Try.func18, Try.ntmps18
  go_wp2
  obtain ⟨e10, e11, e1f⟩ := HR.out (w.alloc (.cells #[] 3 (0, 0))) ((Fr.refl _ _).alloc _)
  obtain ⟨e20, e21, e2f⟩ := HR.out (w.alloc (.cells #[] 4 (0, 0))) ((Fr.refl _ _).alloc _)
  obtain ⟨e30, e31, e3f⟩ := HR.out ((w.alloc (.cells #[] 3 (0, 0))).alloc (.cells #[] 4 (0, 0))) (((Fr.refl _ _).alloc _).alloc _)
  obtain ⟨e40, e41, e4f⟩ := HR.out ((w.alloc (.cells #[] 4 (0, 0))).alloc (.cells #[] 3 (0, 0))) (((Fr.refl _ _).alloc _).alloc _)
  go_region_law (first | (refine st_append _ rfl (.tmp 3) (.tmp 7) 22 rfl 3 _ 1 8 Try.underlying22 info3 rfl (by decide) none _ 0 [] rfl (Row.no _ _ _ _) (some ⟨s, 0, none⟩) n cs (iv said) rfl HL1.out (fun _ => HS.out _ (by first | exact (Fr.refl No _).drew | exact ((Fr.refl No _).alloc _).drew | exact (((Fr.refl No _).alloc _).alloc _).drew | exact ((Fr.refl No _).drew).alloc _ | exact (((Fr.refl No _).drew).alloc _).alloc _ | exact hG14 | exact hG14.alloc _ | exact hG8 | exact hG8.alloc _ | exact hG14.drew | exact (hG14.alloc _).drew | exact hG8.drew | exact (hG8.alloc _).drew)) (iv_one _) (by unfold maxLen; omega) (by omega) ?_; intro A8 c8 w8 rb8 hr8 hF8 hn8; rw [Nat.zero_add, List.nil_append] at hr8; have hG8 : Fr No w w8 := Fr.then_ (by first | exact (Fr.refl No _).drew | exact ((Fr.refl No _).alloc _).drew | exact (((Fr.refl No _).alloc _).alloc _).drew | exact ((Fr.refl No _).drew).alloc _ | exact (((Fr.refl No _).drew).alloc _).alloc _ | exact hG14 | exact hG14.alloc _ | exact hG8 | exact hG8.alloc _ | exact hG14.drew | exact (hG14.alloc _).drew | exact hG8.drew | exact (hG8.alloc _).drew) (hF8.mono (fun _ _ q => by cases q)); obtain ⟨q80, q81, q8f⟩ := HR.out w8 hG8; obtain ⟨t80, t81, t8f⟩ := HR.out (w8.alloc (.cells #[] 3 (0, 0))) (hG8.alloc _); obtain ⟨u80, u81, u8f⟩ := HR.out (w8.alloc (.cells #[] 4 (0, 0))) (hG8.alloc _); have hz8 : ∀ k, rb8 = some k → w.heap.size ≤ k := (fun k hk => by (rcases hn8 with q | ⟨k', q, hq⟩; (rw [q] at hk; cases hk); (rw [q] at hk; cases hk; refine Nat.le_trans ?_ hq; exact Fr.size (S := No) (by first | exact (Fr.refl No _).drew | exact ((Fr.refl No _).alloc _).drew | exact (((Fr.refl No _).alloc _).alloc _).drew | exact ((Fr.refl No _).drew).alloc _ | exact (((Fr.refl No _).drew).alloc _).alloc _ | exact hG14 | exact hG14.alloc _ | exact hG8 | exact hG8.alloc _ | exact hG14.drew | exact (hG14.alloc _).drew | exact hG8.drew | exact (hG8.alloc _).drew)))); try (have hX8 : Fr No w14 w8 := Fr.then_ (by first | exact Fr.refl No w14 | exact (Fr.refl No w14).alloc _ | exact (Fr.refl No w14).drew | exact ((Fr.refl No w14).alloc _).drew) (hF8.mono (fun _ _ q => by cases q)))) | (refine st_append _ rfl (.tmp 9) (.tmp 13) 101 rfl 4 _ 1 1 Try.underlying101 info4 rfl (by decide) none _ 0 [] rfl (Row.no _ _ _ _) (some ⟨p, 0, none⟩) n cp (bb spoke) rfl HL2.out (fun _ => HP.out _ (by first | exact (Fr.refl No _).drew | exact ((Fr.refl No _).alloc _).drew | exact (((Fr.refl No _).alloc _).alloc _).drew | exact ((Fr.refl No _).drew).alloc _ | exact (((Fr.refl No _).drew).alloc _).alloc _ | exact hG14 | exact hG14.alloc _ | exact hG8 | exact hG8.alloc _ | exact hG14.drew | exact (hG14.alloc _).drew | exact hG8.drew | exact (hG8.alloc _).drew)) (bb_one _) (by unfold maxLen; omega) (by omega) ?_; intro A14 c14 w14 rb14 hr14 hF14 hn14; rw [Nat.zero_add, List.nil_append] at hr14; have hG14 : Fr No w w14 := Fr.then_ (by first | exact (Fr.refl No _).drew | exact ((Fr.refl No _).alloc _).drew | exact (((Fr.refl No _).alloc _).alloc _).drew | exact ((Fr.refl No _).drew).alloc _ | exact (((Fr.refl No _).drew).alloc _).alloc _ | exact hG14 | exact hG14.alloc _ | exact hG8 | exact hG8.alloc _ | exact hG14.drew | exact (hG14.alloc _).drew | exact hG8.drew | exact (hG8.alloc _).drew) (hF14.mono (fun _ _ q => by cases q)); obtain ⟨q140, q141, q14f⟩ := HR.out w14 hG14; obtain ⟨t140, t141, t14f⟩ := HR.out (w14.alloc (.cells #[] 3 (0, 0))) (hG14.alloc _); obtain ⟨u140, u141, u14f⟩ := HR.out (w14.alloc (.cells #[] 4 (0, 0))) (hG14.alloc _); have hz14 : ∀ k, rb14 = some k → w.heap.size ≤ k := (fun k hk => by (rcases hn14 with q | ⟨k', q, hq⟩; (rw [q] at hk; cases hk); (rw [q] at hk; cases hk; refine Nat.le_trans ?_ hq; exact Fr.size (S := No) (by first | exact (Fr.refl No _).drew | exact ((Fr.refl No _).alloc _).drew | exact (((Fr.refl No _).alloc _).alloc _).drew | exact ((Fr.refl No _).drew).alloc _ | exact (((Fr.refl No _).drew).alloc _).alloc _ | exact hG14 | exact hG14.alloc _ | exact hG8 | exact hG8.alloc _ | exact hG14.drew | exact (hG14.alloc _).drew | exact hG8.drew | exact (hG8.alloc _).drew)))); try (have hX14 : Fr No w8 w14 := Fr.then_ (by first | exact Fr.refl No w8 | exact (Fr.refl No w8).alloc _ | exact (Fr.refl No w8).drew | exact ((Fr.refl No w8).alloc _).drew) (hF14.mono (fun _ _ q => by cases q)))))
  all_goals
    obtain ⟨g8, d8, rfl, hv8, _, _, _⟩ := Row.at_ hr8 (by omega)
    obtain ⟨g14, d14, rfl, hv14, _, _, _⟩ := Row.at_ hr14 (by omega)
    injection hv8 with hA8 _ hc8
    injection hv14 with hA14 _ hc14
    subst hA8 hc8 hA14 hc14
    have hs8 := hz8 g8 rfl
    have hs14 := hz14 g14 rfl
    go_wp2
    refine bodyPost_ret (results_tmp rfl _ _ _) rfl ?_
    first
      | exact ⟨_, rfl, _, _, ⟨_, _, Bk.new w14 103 [.slice (some ⟨g8, 0, none⟩) n c8, .slice (some ⟨g14, 0, none⟩) n c14], (hr8.fr hX14 (fun _ _ q => q)).fr ((Fr.refl No w14).alloc _) (fun _ _ q => q), hr14.fr ((Fr.refl No w14).alloc _) (fun _ _ q => q)⟩, hG14.size, hs8, hs14, hG14.alloc _⟩
      | exact ⟨_, rfl, _, _, ⟨_, _, Bk.new w8 103 [.slice (some ⟨g8, 0, none⟩) n c8, .slice (some ⟨g14, 0, none⟩) n c14], hr8.fr ((Fr.refl No w8).alloc _) (fun _ _ q => q), (hr14.fr hX8 (fun _ _ q => q)).fr ((Fr.refl No w8).alloc _) (fun _ _ q => q)⟩, hG8.size, hs8, hs14, hG8.alloc _⟩
end Go.Proofs.Ytobnehbcnlhchaa.Vt
