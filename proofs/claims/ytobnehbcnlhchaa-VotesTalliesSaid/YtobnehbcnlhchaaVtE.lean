/- Two tallies and the document's, side by side: how they lie; made. Conditions: none. -/
import Derived.Test.YtobnehbcnlhchaaVtIC
import Derived.Test.YtobnehbcnlhchaaVtSC
import Derived.Test.YtobnehbcnlhchaaVtS
import Derived.Test.YtobnehbcnlhchaaVtD
namespace Go.Proofs.Ytobnehbcnlhchaa.Vt
open Go.RowKit Go.Proofs.Ytobnehbcnlhchaa.Mem
set_option linter.unusedVariables false
set_option linter.unusedSimpArgs false
/-- what a tally of the program's holds where the document's holds these -/
def s7 {T : Type} (f : Int → T) (z : T) (said : List Int) (spoke : List Bool) : List (Bool × T) := (List.range 7).map fun i => (spoke.getD i false, if spoke.getD i false = true then f (said.getD i 0) else z)
section
variable {T : Type} {f : Int → T} {z : T} {said : List Int} {spoke : List Bool}
theorem s7_len : (s7 f z said spoke).length = 7 := by simp [s7]
theorem s7_get (i : Nat) (h : i < 7) : (s7 f z said spoke)[i]? = some (spoke.getD i false, if spoke.getD i false = true then f (said.getD i 0) else z) := by
  unfold s7
  rw [List.getElem?_map, List.getElem?_range h]
  rfl
theorem s7_getD (i : Nat) (h : i < 7) (d : Bool × T) : (s7 f z said spoke).getD i d = (spoke.getD i false, if spoke.getD i false = true then f (said.getD i 0) else z) := by
  rw [List.getD_eq_getElem?_getD, s7_get i h]
  rfl
theorem s7_ext {l : List (Bool × T)} (hl : l.length = 7) (h : ∀ i, i < 7 → l[i]? = some (spoke.getD i false, if spoke.getD i false = true then f (said.getD i 0) else z)) : l = s7 f z said spoke := by
  apply List.ext_getElem?
  intro i
  by_cases hi : i < 7
  · rw [h i hi, s7_get i hi]
  · rw [List.getElem?_eq_none (by omega), List.getElem?_eq_none (by rw [s7_len]; omega)]
theorem getD_set {α : Type} (l : List α) (k i : Nat) (v d : α) : (l.set k v).getD i d = if k = i ∧ k < l.length then v else l.getD i d := by
  rw [List.getD_eq_getElem?_getD, List.getElem?_set, List.getD_eq_getElem?_getD]
  by_cases h : k = i
  · subst h
    by_cases h2 : k < l.length
    · simp [h2]
    · simp [h2, List.getElem?_eq_none (Nat.le_of_not_lt h2)]
  · simp [h]
theorem s7_add (k : Nat) (hk : k < 7) (h1 : k < said.length) (h2 : k < spoke.length) (v : Int) : (s7 f z said spoke).set k (true, f v) = s7 f z (said.set k v) (spoke.set k true) := by
  refine s7_ext (by rw [List.length_set, s7_len]) fun i hi => ?_
  rw [List.getElem?_set, getD_set, getD_set, s7_get i hi]
  by_cases h : k = i
  · subst h; simp [h1, h2, s7_len, hk]
  · simp [h]
theorem s7_drop (k : Nat) (hk : k < 7) (h2 : k < spoke.length) : (s7 f z said spoke).set k (false, z) = s7 f z said (spoke.set k false) := by
  refine s7_ext (by rw [List.length_set, s7_len]) fun i hi => ?_
  rw [List.getElem?_set, getD_set, s7_get i hi]
  by_cases h : k = i
  · subst h; simp [h2, s7_len, hk]
  · simp [h]
theorem s7_none {n : Nat} (hn : n ≤ 7) : s7 f z said (List.replicate n false) = List.replicate 7 (false, z) := by
  refine (s7_ext (by simp) fun i hi => ?_).symm
  have : (List.replicate n false).getD i false = false := by
    rw [List.getD_eq_getElem?_getD, List.getElem?_replicate]
    split <;> rfl
  rw [this, List.getElem?_replicate, if_pos hi]
  rfl
/-- what has been said, rising, from the document's -/
def upS {T : Type} (f : Int → T) (said : List Int) (spoke : List Bool) (i : Nat) : List (Int × T) := match spoke with
  | [] => []
  | b :: r => (if b = true then [((i : Int), f (said.getD i 0))] else []) ++ upS f said r (i + 1)
theorem upS_len : ∀ (spoke : List Bool) (i : Nat), (upS f said spoke i).length = cnt spoke
  | [], _ => rfl
  | b :: r, i => by
    have h := upS_len r (i + 1)
    unfold upS
    rw [List.length_append, h]
    cases b <;> simp [cnt]
    omega
end
theorem saidI_up (said : List Int) : ∀ (m : Nat) (spoke : List Bool) (i : Nat), VtI.saidT ((List.range m).map fun j => (spoke.getD j false, if spoke.getD j false = true then said.getD (i + j) 0 else 0)) i = upS id said (spoke.take m) i
  | 0, spoke, i => by simp [VtI.saidT, upS]
  | m + 1, [], i => by
    rw [List.range_succ_eq_map, List.map_cons, List.map_map, VtI.saidT]
    have h := saidI_up said m [] (i + 1)
    simp [upS] at h ⊢
    exact h
  | m + 1, b :: r, i => by
    rw [List.range_succ_eq_map, List.map_cons, List.map_map, VtI.saidT, List.take_succ_cons, upS]
    have h := saidI_up said m r (i + 1)
    congr 1
    · cases b <;> simp
    · rw [← h]
      congr 1
      apply List.map_congr_left
      intro j _
      simp [Nat.add_assoc, Nat.add_comm 1 j]
theorem saidS_up (said : List Int) : ∀ (m : Nat) (spoke : List Bool) (i : Nat), VtS.saidT ((List.range m).map fun j => (spoke.getD j false, if spoke.getD j false = true then textV (said.getD (i + j) 0) else ByteArray.empty)) i = upS textV said (spoke.take m) i
  | 0, spoke, i => by simp [VtS.saidT, upS]
  | m + 1, [], i => by
    rw [List.range_succ_eq_map, List.map_cons, List.map_map, VtS.saidT]
    have h := saidS_up said m [] (i + 1)
    simp [upS] at h ⊢
    exact h
  | m + 1, b :: r, i => by
    rw [List.range_succ_eq_map, List.map_cons, List.map_map, VtS.saidT, List.take_succ_cons, upS]
    have h := saidS_up said m r (i + 1)
    congr 1
    · cases b <;> simp
    · rw [← h]
      congr 1
      apply List.map_congr_left
      intro j _
      simp [Nat.add_assoc, Nat.add_comm 1 j]
theorem saidI (said : List Int) (spoke : List Bool) (h : spoke.length ≤ 7) : VtI.saidT (s7 id 0 said spoke) 0 = upS id said spoke 0 := by
  have := saidI_up said 7 spoke 0
  simp only [Nat.zero_add] at this
  rw [List.take_of_length_le h] at this
  exact this
theorem saidS (said : List Int) (spoke : List Bool) (h : spoke.length ≤ 7) : VtS.saidT (s7 textV ByteArray.empty said spoke) 0 = upS textV said spoke 0 := by
  have := saidS_up said 7 spoke 0
  simp only [Nat.zero_add] at this
  rw [List.take_of_length_le h] at this
  exact this
/-- the blocks of a thing -/
structure TB where (a b r s p : Nat)
def TB.v (t : TB) : Value := .agg #[.pointer (some ⟨t.a, 0, none⟩), .pointer (some ⟨t.b, 0, none⟩), .pointer (some ⟨t.r, 0, none⟩)]
def TB.has (t : TB) (k : Nat) : Prop := k = t.a ∨ k = t.b ∨ k = t.r ∨ k = t.s ∨ k = t.p
/-- a thing: its tallies hold what the document's holds -/
structure Th (w : World) (t : TB) (n : Nat) (said : List Int) (spoke : List Bool) : Prop where
  a : VtI.Tl w t.a n (s7 id 0 said spoke)
  b : VtS.Tl w t.b n (s7 textV ByteArray.empty said spoke)
  r : RT w t.r t.s t.p n said spoke
  lo : 1 ≤ n
  hi : n ≤ 7
theorem Th.fr {S : Nat → Prop} {w w1 : World} {t : TB} {n : Nat} {said : List Int} {spoke : List Bool} (h : Th w t n said spoke) (hf : Fr S w w1) (hn : ∀ k, t.has k → ¬ S k) : Th w1 t n said spoke :=
  ⟨h.a.fr hf (hn _ (.inl rfl)), h.b.fr hf (hn _ (.inr (.inl rfl))), h.r.fr hf (hn _ (.inr (.inr (.inl rfl)))) (hn _ (.inr (.inr (.inr (.inl rfl))))) (hn _ (.inr (.inr (.inr (.inr rfl))))), h.lo, h.hi⟩
theorem Th.bt {w : World} {t : TB} {n : Nat} {said : List Int} {spoke : List Bool} (h : Th w t n said spoke) {k : Nat} (hk : t.has k) : BT w k 95 ∨ BT w k 100 ∨ BT w k 103 ∨ BT w k 3 ∨ BT w k 4 := by
  obtain ⟨h1, h2, h3⟩ := h.r.bts
  rcases hk with rfl | rfl | rfl | rfl | rfl
  · exact .inl h.a.bt
  · exact .inr (.inl h.b.bt)
  · exact .inr (.inr (.inl h1))
  · exact .inr (.inr (.inr (.inl h2)))
  · exact .inr (.inr (.inr (.inr h3)))
theorem Th.lt {w : World} {t : TB} {n : Nat} {said : List Int} {spoke : List Bool} (h : Th w t n said spoke) {k : Nat} (hk : t.has k) : k < w.heap.size := by
  rcases h.bt hk with q | q | q | q | q <;> exact q.lt
/-- a thing that was made: all that it is lies in new blocks -/
def ThNew (w w' : World) (t : TB) (n : Nat) (said : List Int) (spoke : List Bool) : Prop := Th w' t n said spoke ∧ (∀ k, t.has k → w.heap.size ≤ k) ∧ Fr No w w'
set_option maxHeartbeats 1000000 in
theorem made_ (n : Nat) (h1 : 1 ≤ n) (h7 : n ≤ 7) (w : World) : Calls Try.prog 14 #[.int .i64 (n : Int)] w fun e w' => ∃ t : TB, e = .returned (.tuple #[t.v, .bool true]) ∧ ThNew w w' t n (List.replicate n 0) (List.replicate n false) := by
  have hbk := Bk.new w 44 [.pointer none, .pointer none, .pointer none]
  have HBK := Lib.hid hbk
  clear hbk
  go_enter Try.func14, Try.ntmps14
  go_wp2_with fail
  refine (VtI.new_ n (by omega) (by omega) _).mono ?_
  rintro e w1 ⟨rfl, hT1, hF1⟩
  have HF1 := Lib.hid (((Fr.refl No w).alloc _).then_ hF1)
  have HBK1 := Lib.hid (Bk.fr (S := No) HBK.out hF1 id)
  obtain ⟨ga, hga⟩ : ∃ g, (w.alloc (.cells #[.pointer none, .pointer none, .pointer none] 44 (0, 0))).heap.size = g := ⟨_, rfl⟩
  try rw [hga] at hT1 ⊢
  have HA1 := Lib.hid hT1
  have hgaw : w.heap.size ≤ ga := by rw [← hga]; simp
  clear hT1 hF1 hga
  go_wp2_with fail
  refine (VtS.new_ n (by omega) (by omega) w1).mono ?_
  rintro e w2 ⟨rfl, hT2, hF2⟩
  have HF2 := Lib.hid (HF1.out.then_ hF2)
  have HBK2 := Lib.hid (HBK1.out.fr hF2 id)
  have HA2 := Lib.hid (HA1.out.fr hF2 id)
  obtain ⟨gb, hgb⟩ : ∃ g, w1.heap.size = g := ⟨_, rfl⟩
  rw [hgb] at hT2 ⊢
  have HB2 := Lib.hid hT2
  have hgbw : w.heap.size ≤ gb := by rw [← hgb]; exact HF1.out.size
  clear hT2 hF2 hgb
  go_wp2_with fail
  refine (rNew_ n h1 h7 w2).mono ?_
  rintro e w3 ⟨r, s, p, rfl, hR, hr, hs, hp, hF3⟩
  have HF3 := Lib.hid (HF2.out.then_ hF3)
  have HBK3 := Lib.hid (HBK2.out.fr hF3 id)
  have HA3 := Lib.hid (HA2.out.fr hF3 id)
  have HB3 := Lib.hid (HB2.out.fr hF3 id)
  have HR3 := Lib.hid hR
  have hw2 := HF2.out.size
  clear hR hF3
  obtain ⟨x0, x1, x2, xf⟩ := HBK3.out.three
  go_wp2
  have HS := Lib.hid (show Fr No w ((((w3.setCell ⟨w.heap.size, 0, none⟩ (.pointer (some ⟨ga, 0, none⟩))).setCell ⟨w.heap.size, 1, none⟩ (.pointer (some ⟨gb, 0, none⟩))).setCell ⟨w.heap.size, 2, none⟩ (.pointer (some ⟨r, 0, none⟩)))) from ((HF3.out.set (p := ⟨w.heap.size, 0, none⟩) (.inr (Nat.le_refl _)) _).set (p := ⟨w.heap.size, 1, none⟩) (.inr (Nat.le_refl _)) _).set (p := ⟨w.heap.size, 2, none⟩) (.inr (Nat.le_refl _)) _)
  have hX : Fr (fun k => k = w.heap.size) w3 ((((w3.setCell ⟨w.heap.size, 0, none⟩ (.pointer (some ⟨ga, 0, none⟩))).setCell ⟨w.heap.size, 1, none⟩ (.pointer (some ⟨gb, 0, none⟩))).setCell ⟨w.heap.size, 2, none⟩ (.pointer (some ⟨r, 0, none⟩)))) := (((Fr.refl (fun k => k = w.heap.size) w3).set (p := ⟨w.heap.size, 0, none⟩) (.inl rfl) _).set (p := ⟨w.heap.size, 1, none⟩) (.inl rfl) _).set (p := ⟨w.heap.size, 2, none⟩) (.inl rfl) _
  have hY := (((HBK3.out.set 0 (.pointer (some ⟨ga, 0, none⟩))).set 1 (.pointer (some ⟨gb, 0, none⟩))).set 2 (.pointer (some ⟨r, 0, none⟩)))
  obtain ⟨y0, y1, y2, yf⟩ := Bk.three (show Bk _ w.heap.size 44 [.pointer (some ⟨ga, 0, none⟩), .pointer (some ⟨gb, 0, none⟩), .pointer (some ⟨r, 0, none⟩)] from hY)
  obtain ⟨b1, b2, b3⟩ := HR3.out.bts
  have hTh : Th ((((w3.setCell ⟨w.heap.size, 0, none⟩ (.pointer (some ⟨ga, 0, none⟩))).setCell ⟨w.heap.size, 1, none⟩ (.pointer (some ⟨gb, 0, none⟩))).setCell ⟨w.heap.size, 2, none⟩ (.pointer (some ⟨r, 0, none⟩)))) ⟨ga, gb, r, s, p⟩ n (List.replicate n 0) (List.replicate n false) :=
    ⟨by rw [s7_none h7]; exact HA3.out.fr hX (HA3.out.bt.ne HBK3.out.bt (by decide)), by rw [s7_none h7]; exact HB3.out.fr hX (HB3.out.bt.ne HBK3.out.bt (by decide)), HR3.out.fr hX (b1.ne HBK3.out.bt (by decide)) (b2.ne HBK3.out.bt (by decide)) (b3.ne HBK3.out.bt (by decide)), h1, h7⟩
  have HTH := Lib.hid hTh
  clear hTh hX hY
  refine bodyPost_ret (v := .tuple #[.agg #[.pointer (some ⟨ga, 0, none⟩), .pointer (some ⟨gb, 0, none⟩), .pointer (some ⟨r, 0, none⟩)], .bool true]) ?_ rfl ?_
  · simp [results, Try.results14, go_sem, y0, y1, y2, yf]
  · refine ⟨⟨ga, gb, r, s, p⟩, rfl, HTH.out, fun k hk => ?_, HS.out⟩
    rcases hk with rfl | rfl | rfl | rfl | rfl <;> omega
def thNil : Value := .agg #[.pointer none, .pointer none, .pointer none]
set_option maxHeartbeats 1000000 in
theorem made_no (n : Int) (h : n < 1 ∨ 7 < n) (w : World) : Calls Try.prog 14 #[.int .i64 n] w fun e w' => e = .returned (.tuple #[thNil, .bool true]) ∧ Fr No w w' := by
  have HBK := Lib.hid (Bk.new w 44 [.pointer none, .pointer none, .pointer none])
  go_enter Try.func14, Try.ntmps14
  go_wp2_with fail
  refine (VtI.new_no n h _).mono ?_
  rintro e w1 ⟨rfl, hF1⟩
  have HF1 := Lib.hid (((Fr.refl No w).alloc _).then_ hF1)
  have HBK1 := Lib.hid (Bk.fr (S := No) HBK.out hF1 id)
  clear hF1
  go_wp2_with fail
  refine (VtS.new_no n h w1).mono ?_
  rintro e w2 ⟨rfl, hF2⟩
  have HF2 := Lib.hid (HF1.out.then_ hF2)
  have HBK2 := Lib.hid (HBK1.out.fr hF2 id)
  clear hF2
  go_wp2_with fail
  refine (rNew_no n h w2).mono ?_
  rintro e w3 ⟨rfl, rfl⟩
  obtain ⟨x0, x1, x2, xf⟩ := HBK2.out.three
  go_wp2
  have hY := (((HBK2.out.set 0 (.pointer none)).set 1 (.pointer none)).set 2 (.pointer none))
  obtain ⟨y0, y1, y2, yf⟩ := Bk.three (show Bk _ w.heap.size 44 [.pointer none, .pointer none, .pointer none] from hY)
  refine bodyPost_ret (v := .tuple #[.agg #[.pointer none, .pointer none, .pointer none], .bool true]) ?_ rfl ?_
  · simp [results, Try.results14, go_sem, y0, y1, y2, yf]
  · exact ⟨rfl, ((HF2.out.set (p := ⟨w.heap.size, 0, none⟩) (.inr (Nat.le_refl _)) _).set (p := ⟨w.heap.size, 1, none⟩) (.inr (Nat.le_refl _)) _).set (p := ⟨w.heap.size, 2, none⟩) (.inr (Nat.le_refl _)) _⟩
end Go.Proofs.Ytobnehbcnlhchaa.Vt
