/- The document's examples on votes hold: 'shown' answers true. Conditions: none. -/
import Derived.Test.YtobnehbcnlhchaaVtIB
import Derived.Test.YtobnehbcnlhchaaPVotesSharesx3
import Derived.Test.YtobnehbcnlhchaaPVotesSharesx2
namespace Go.Proofs.Ytobnehbcnlhchaa.Vt
open Go.RowKit Go.Proofs.Ytobnehbcnlhchaa.Mem Go.Proofs.YtobnehbcnlhchaaW.PrintWords Go.Proofs.Ytobnehbcnlhchaa.PVotesShares
set_option linter.unusedVariables false
set_option linter.unusedSimpArgs false
theorem cfg_ok : votes_CheckConfig.f 100 3 1 2 3 8 64 6 4 8 2 = some 0 := by kernel_rfl
theorem cfg_no : votes_CheckConfig.f 100 4 1 2 3 8 64 6 4 8 2 = some 42 := by kernel_rfl
theorem point_ok : votes_Point.f 100 5 [1, 1, 7, 0, 7] = some (1, 0) := by kernel_rfl
theorem plain_ok : flotillalaw04_plain.f = some (3, 1, 2, 3, 8, 64, 6, 4, 8, 2) := by kernel_rfl
theorem maj5 : votes_Majority.f 5 = some 3 := by kernel_rfl
theorem flt5 : votes_Faults.f 5 = some 2 := by kernel_rfl
theorem prim5 : votes_Primary.f 5 12 = some 2 := by kernel_rfl
theorem C_ints {w : World} {b t : Nat} {fr : Nat × Nat} (l : List Int) (hl : l.length ≤ 1000) (h : w.heap[b]? = some (.cells (l.map (Value.int .i64)).toArray t fr)) : Kd.C (Kd.int .i64) w (some ⟨b, 0, none⟩) l.length l := by
  refine ⟨rfl, by omega, fun _ => ⟨_, rfl, fun j p hj => ⟨[.int .i64 p], rfl, rfl, fun i u hu => ?_⟩⟩⟩
  show w.cell? _ = _
  rw [add_plain, Blk.cell h]
  obtain rfl : i = 0 := by
    have := (List.getElem?_eq_some_iff.1 hu).1
    simp at this
    omega
  simp at hu
  subst hu
  show ((l.map (Value.int .i64)).toArray)[j * 1 + 0]? = _
  simp [hj]
set_option maxHeartbeats 2000000 in
set_option maxRecDepth 100000 in
theorem shown (w : World) : Calls Try.prog 6 #[] w fun e w' => e = .returned (.bool true) ∧ Fr No w w' := by
  go_enter Try.func6, Try.ntmps6
  go_wp2_with fail
  refine (flotillalaw04_plain.calls _ _ _ _ _ _ _ _ _ _ w plain_ok).mono ?_
  rintro e w1 ⟨rfl, hB1⟩
  have hB1 := Fr.of hB1 No
  go_wp2_with fail
  refine (votes_CheckConfig.calls 100 _ _ _ _ _ _ _ _ _ _ _ w1 cfg_ok).mono ?_
  rintro e w2 ⟨rfl, hb2⟩
  have hB2 := hB1.then_ (Fr.of hb2 No)
  clear hb2 hB1
  go_wp2_with fail
  refine (flotillalaw04_plain.calls _ _ _ _ _ _ _ _ _ _ w2 plain_ok).mono ?_
  rintro e w3 ⟨rfl, hb3⟩
  have hB3 := hB2.then_ (Fr.of hb3 No)
  clear hb3 hB2
  go_wp2_with fail
  refine (votes_CheckConfig.calls 100 _ _ _ _ _ _ _ _ _ _ _ _ cfg_no).mono ?_
  rintro e w4 ⟨rfl, hb4⟩
  have hB4 := (hB3.alloc _).then_ (Fr.of hb4 No)
  clear hb4 hB3
  go_wp2_with fail
  refine (votes_Point.calls 100 5 _ _ _ _ _ _ (C_ints [1, 1, 7, 0, 7] (by simp) (Blk.new w4 _)) (by simp) point_ok).mono ?_
  rintro e w5 ⟨rfl, hb5⟩
  have hB5 := (hB4.alloc _).then_ (Fr.of hb5.below No)
  clear hb5 hB4
  go_wp2_with fail
  refine (VtI.new_ 3 (by omega) (by omega) w5).mono ?_
  rintro e w6 ⟨rfl, hT, hb6⟩
  have hB6 := hB5.then_ hb6
  obtain ⟨g, hg⟩ : ∃ g, w5.heap.size = g := ⟨_, rfl⟩
  have hwg : w.heap.size ≤ g := by rw [← hg]; exact hB5.size
  rw [hg] at hT
  have HG := Lib.hid hg
  clear hb6 hB5 hg
  go_wp2_with fail
  try rw [HG.out]
  refine (VtI.add_ g 1 3 _ 5 w6 hT (by omega) (by decide)).mono ?_
  rintro e w7 ⟨rfl, hT7, hb7⟩
  have hB7 := hB6.trans hb7 (fun k hk e => by subst e; omega)
  clear hb7 hB6 hT
  go_wp2_with fail
  refine (VtI.add_ g 1 3 _ 6 w7 hT7 (by omega) (by decide)).mono ?_
  rintro e w8 ⟨rfl, hT8, hb8⟩
  have hB8 := hB7.trans hb8 (fun k hk e => by subst e; omega)
  clear hb8 hB7 hT7
  go_wp2_with fail
  refine (VtI.get_ g 1 3 _ w8 hT8 (by omega) (by decide)).mono ?_
  rintro e w9 ⟨rfl, hb9⟩
  have hT9 := hT8.fr hb9 id
  have hB9 := hB8.then_ hb9
  clear hb9 hB8 hT8
  go_wp2_with fail
  refine (VtI.countT g _ _ w9 hT9).mono ?_
  rintro e wa ⟨rfl, hba⟩
  have hBa := hB9.then_ (Fr.of hba No)
  rw [show (VtI.saidT ((VtI.no7.set 1 (true, 5)).set 1 (true, 6)) 0).length = 1 from rfl]
  clear hba hB9 hT9
  go_wp2_with fail
  refine (votes_Majority.calls 5 _ _ maj5).mono ?_
  rintro e wb ⟨rfl, hbb⟩
  have hBb := hBa.then_ (Fr.of hbb.below No)
  clear hbb hBa
  go_wp2_with fail
  refine (votes_Faults.calls 5 _ _ flt5).mono ?_
  rintro e wc ⟨rfl, hbc⟩
  have hBc := hBb.then_ (Fr.of hbc.below No)
  clear hbc hBb
  go_wp2_with fail
  refine (votes_Primary.calls 5 12 _ _ prim5).mono ?_
  rintro e wd ⟨rfl, hbd⟩
  have hBd := hBc.then_ (Fr.of hbd.below No)
  clear hbd hBc
  go_wp2
  go_ret
  exact ⟨rfl, hBd⟩
end Go.Proofs.Ytobnehbcnlhchaa.Vt
