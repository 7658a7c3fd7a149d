/- A bag's calls: New, Clone, Older. Conditions: none. -/
import Derived.Test.YtilpffolldegbaaBagF
import Derived.WalkSpells
namespace Go.Proofs.Ytilpffolldegbaa.Bg
open Go.RowKit Go.Proofs.Ytilpffolldegbaa.Mem
set_option linter.unusedVariables false
set_option linter.unusedSimpArgs false

theorem bNew_no (room : Int) (w : World) (h : room < 1 ∨ 1024 < room) : Calls Try.prog 9 #[.int .i64 room] w fun e w' => e = .returned (.tuple #[.pointer none, .int .i64 150]) ∧ w' = w := by
  rcases h with h | h
  · have d1 : decide (room < 1) = true := decide_eq_true h
    go_enter Try.func9, Try.ntmps9
    go_wp2
    go_ret2
    exact ⟨rfl, rfl⟩
  · have d1 : decide (room < 1) = false := decide_eq_false (by omega)
    have d2 : decide (1024 < room) = true := decide_eq_true h
    go_enter Try.func9, Try.ntmps9
    go_wp2
    go_ret2
    exact ⟨rfl, rfl⟩
theorem bNew (H : Nat → Prop) (room : Int) (w : World) (h : 1 ≤ room) (h' : room ≤ 1024) : Calls Try.prog 9 #[.int .i64 room] w fun e w' => e = .returned (.tuple #[.pointer (some ⟨w.heap.size, 0, none⟩), .int .i64 0]) ∧ Bag H w' w.heap.size none ⟨room, 0, []⟩ ∧ Fr No w w' := by
  have d1 : decide (room < 1) = false := decide_eq_false (by omega)
  have d2 : decide (1024 < room) = false := decide_eq_false (by omega)
  go_enter Try.func9, Try.ntmps9
  go_wp2
  go_ret2
  exact ⟨rfl, ⟨_, Bk.new w 76 [.int .i64 room, .int .i64 0, .slice none 0 0], PR.nil _ _⟩, (Fr.refl _ _).alloc _⟩
/-- the cells of a row of packets are one by one -/
theorem flat_one {H : Nat → Prop} {w : World} {ps : List Pk} {ch : List (List Value)} (h : All2 (PkC H w) ps ch) : ∀ u ∈ ch.flatten, u.oneCell' = true := fun u hu => by
  obtain ⟨cs, hcs, hu⟩ := List.mem_flatten.1 hu
  obtain ⟨j, hj, rfl⟩ := List.mem_iff_getElem.1 hcs
  obtain ⟨A, cc, e, _, _⟩ := h.2 j _ _ (List.getElem?_eq_getElem (show j < ps.length by have := h.1; omega)) (List.getElem?_eq_getElem hj)
  rw [e] at hu
  simp only [Pk.cells, List.mem_cons, List.not_mem_nil, or_false] at hu
  rcases hu with rfl | rfl | rfl | rfl | rfl | rfl <;> rfl
theorem pClone {H : Nat → Prop} {rb : Option Nat} {v : Value} {ps : List Pk} (w : World) (hp : PR H w rb v ps) (hn : ps.length ≤ 2147483648) :
    Calls Try.prog 40 #[v] w fun e w' => ∃ A c rb', e = .returned (.slice A ps.length c) ∧ PR H w' rb' (.slice A ps.length c) ps ∧ Fr No w w' ∧ (∀ k, rb' = some k → w.heap.size ≤ k) := by
  obtain ⟨A, c, rfl, hc⟩ := hp.val
  obtain ⟨ch, hrow, hall⟩ := hp
  have HALL := Lib.hid hall
  have HROW := Lib.hid hrow
  have hone := flat_one hall
  have HONE := Lib.hid hone
  have hlen := hrow.len
  have HLEN := Lib.hid hlen
  have HPS := Lib.hid (show ps.length = ps.length from rfl)
  rcases A with _ | ad
  · have h0 : ps = [] := by
      rcases hrow with ⟨_, h, _⟩ | ⟨g, _, hb, _⟩
      · exact List.eq_nil_of_length_eq_zero h
      · simp [Value.ownBlock] at hb
    subst h0
    have hq := Lib.run_eql_slice_nil (P := Try.prog) w 45 31 none 0 c 0 0 Try.underlying45
    clear hrow hall hone hlen
    go_enter Try.func40, Try.ntmps40
    go_wp2
    go_ret
    exact ⟨none, 0, rfl, none, PR.nil _ _, Fr.refl _ _, fun k h => by cases h⟩
  · have hq := Lib.run_eql_slice_nil (P := Try.prog) w 45 31 (some ad) ps.length c 0 0 Try.underlying45
    obtain ⟨n, hn'⟩ : ∃ n, ps.length = n := ⟨_, rfl⟩
    have HN := Lib.hid hn'
    rw [hn'] at hq hn HLEN HROW ⊢
    have HCEL := Lib.hid (show 0 < n → ∃ a, some ad = some a ∧ ∀ j u, ch.flatten[j]? = some u → (w.alloc (.cells #[] 31 (0, 0))).cell? (a.add j) = some u from fun h => by
      obtain ⟨g, c', hr, hv, _, hcell, _⟩ := HROW.out.at_ h
      injection hv with e1
      rw [e1]
      refine ⟨_, rfl, fun j u hj => ?_⟩
      rw [add0, World.cell?_alloc_lt w _ _ (HROW.out.lt hr)]
      exact hcell j u hj)
    have hFa : Fr No w (w.alloc (.cells #[] 31 (0, 0))) := (Fr.refl _ _).alloc _
    have HFA := Lib.hid hFa
    clear hrow hall hone hlen hn' hFa
    go_enter Try.func40, Try.ntmps40
    go_wp2_with (at_builtin; refine wl_append _ rfl (.tmp 5) (.tmp 6) 45 rfl 31 _ 6 64 Try.underlying45 infoPk rfl (by decide) none _ 0 [] rfl (Row.no _ _ _ _) (some ad) n c ch.flatten rfl HLEN.out HCEL.out HONE.out (by unfold maxLen; omega) (by omega) ?_; intro A' c' w1 rb' hrow1 hF1 hnb1)
    rw [Nat.zero_add, List.nil_append] at hrow1
    go_ret
    refine ⟨A', c', rfl, rb', ⟨ch, by rw [HN.out]; exact hrow1, HALL.out.imp (fun p cs h => (h.fr0 HFA.out).fr hF1 (fun q h => by cases h))⟩, HFA.out.trans hF1 (fun q _ h => by cases h), fun k hk => ?_⟩
    rcases hnb1 with h | ⟨q, h, hq⟩
    · rw [h] at hk; cases hk
    · rw [h] at hk
      cases hk
      have := HFA.out.size
      omega
/-- a clone: its own block, its own row -/
theorem bClone {H : Nat → Prop} {g : Nat} {rb : Option Nat} {s : St} (w : World) (hB : Bag H w g rb s) (hn : s.ps.length ≤ 2147483648) :
    Calls Try.prog 22 #[.pointer (some ⟨g, 0, none⟩)] w fun e w' => ∃ rb', e = .returned (.pointer (some ⟨w.heap.size, 0, none⟩)) ∧ Bag H w' w.heap.size rb' s ∧ Fr No w w' ∧ (∀ k, rb' = some k → w.heap.size < k) := by
  obtain ⟨room, laid, ps⟩ := s
  obtain ⟨v, hg, hp⟩ := hB
  obtain ⟨A, c, rfl, hc⟩ := hp.val
  dsimp only at *
  obtain ⟨w1, hw1⟩ : ∃ w1, w.alloc (.cells #[.int .i64 room, .int .i64 laid, .slice A ps.length c] 76 (0, 0)) = w1 := ⟨_, rfl⟩
  have hF : Fr No w w1 := by rw [← hw1]; exact (Fr.refl _ _).alloc _
  have hs1 : w1.heap.size = w.heap.size + 1 := by rw [← hw1]; simp
  have hz : Bk w1 w.heap.size 76 [.int .i64 room, .int .i64 laid, .slice A ps.length c] := by rw [← hw1]; exact Bk.new w _ _
  have HZ := Lib.hid hz
  have HW1 := Lib.hid hw1
  have HF := Lib.hid hF
  have HS := Lib.hid hs1
  obtain ⟨g0, g1, g2, gf⟩ := hg.three
  have hlt := hg.lt
  have hg1 := (hg.fr hF id).cell 2
  simp at hg1
  have HCL := Lib.hid (pClone (H := H) (rb := rb) w1 (hp.fr hF (fun _ _ q => q) (fun _ q => q.elim)) hn)
  clear hp hg hw1 hz hF hs1
  go_enter Try.func22, Try.ntmps22
  go_wp2_with fail
  rw [HW1.out]
  refine HCL.out.mono ?_
  rintro e w2 ⟨A', c', rb', rfl, hp2, hF2, hnb⟩
  obtain ⟨z0, z1, z2, zf⟩ := (HZ.out.fr hF2 id).three
  have HZ2 := Lib.hid (HZ.out.fr hF2 id)
  have HP2 := Lib.hid hp2
  have HF2 := Lib.hid (HF.out.then_ hF2)
  have HNB := Lib.hid hnb
  clear hp2 hF2 hnb HCL HW1 HF HZ
  go_wp2
  go_ret
  refine ⟨rb', rfl, ⟨_, HZ2.out.set 2 _, ?_⟩, ?_, ?_⟩
  · refine HP2.out.fr (S := fun q => q = w.heap.size) ?_ ?_ ?_
    · exact (Fr.refl (fun q => q = w.heap.size) _).set (p := ⟨w.heap.size, 2, none⟩) (.inl rfl) _
    · intro q hq h
      have := HNB.out q hq
      have := HS.out
      omega
    · intro q hq h8
      subst hq
      exact absurd rfl (HZ2.out.bt.ne h8 (by decide))
  · exact HF2.out.set (p := ⟨w.heap.size, 2, none⟩) (.inr (Nat.le_refl _)) _
  · intro k hk
    have := HNB.out k hk
    have := HS.out
    omega
/-- all older by one -/
def Pk.old (p : Pk) : Pk := { p with age := p.age + 1 }
def olderS (s : St) : St := { s with ps := s.ps.map Pk.old }
def agedTo (ps : List Pk) (k : Nat) : List Pk := (ps.take k).map Pk.old ++ ps.drop k
theorem agedTo_len (ps : List Pk) (k : Nat) : (agedTo ps k).length = ps.length := by
  unfold agedTo
  rw [List.length_append, List.length_map, List.length_take, List.length_drop]
  omega
theorem agedTo_get (ps : List Pk) (k : Nat) (hk : k < ps.length) : (agedTo ps k)[k]'(by rw [agedTo_len]; exact hk) = ps[k] := by
  unfold agedTo
  rw [List.getElem_append_right (by simp; omega)]
  simp only [List.length_map, List.length_take, List.getElem_drop]
  congr 1
  omega
theorem agedTo_succ (ps : List Pk) (k : Nat) (hk : k < ps.length) : (agedTo ps k).set k ps[k].old = agedTo ps (k + 1) := by
  unfold agedTo
  rw [List.set_append_right _ _ (by simp; omega), List.length_map, List.length_take, Nat.min_eq_left (by omega), Nat.sub_self, List.drop_eq_getElem_cons hk, List.set_cons_zero, List.take_succ_eq_append_getElem hk, List.map_append]
  simp
/-- a field of a packet is written -/
theorem PR.field {H : Nat → Prop} {w : World} {r c : Nat} {ps : List Pk} (h : PR H w (some r) (.slice (some ⟨r, 0, none⟩) ps.length c) ps) (k : Nat) (hk : k < ps.length) (j : Nat) (hj : j < 6) (u : Value) (p' : Pk)
    (hp' : ∀ A cap, ps[k].data.length ≤ cap → BR (T8 5 H w) w A ps[k].data → PkC H (w.setCell ⟨r, k * 6 + j, none⟩ u) p' ((ps[k].cells A cap).set j u)) :
    PR H (w.setCell ⟨r, k * 6 + j, none⟩ u) (some r) (.slice (some ⟨r, 0, none⟩) ps.length c) (ps.set k p') := by
  obtain ⟨ch, hrow, hall⟩ := h
  obtain ⟨cs, hcs, hpk⟩ := hall.at_ k hk
  have hlens := PR.lens hall
  have hfl := flat_len hlens
  have hchl := hall.1
  have hbt := hrow.bt rfl
  refine ⟨ch.set k (cs.set j u), ?_, ?_⟩
  · rw [List.length_set, ← flat_set j u k cs hlens hcs hj]
    refine hrow.set rfl _ u ?_
    rw [hfl, ← hchl]
    have : k * 6 + 6 ≤ ps.length * 6 := by rw [← Nat.succ_mul]; exact Nat.mul_le_mul_right _ hk
    omega
  · have h1 : All2 (PkC H (w.setCell ⟨r, k * 6 + j, none⟩ u)) ps ch := hall.imp (fun p cs h => h.fr (S := fun q => q = r) ((Fr.refl (fun q => q = r) w).set (p := ⟨r, k * 6 + j, none⟩) (.inl rfl) u) (fun q hq h8 => by subst hq; exact absurd rfl (hbt.ne h8 (by decide))))
    refine h1.set k ?_
    obtain ⟨A, cap, rfl, hl, hb⟩ := hpk
    exact hp' A cap hl hb
end Go.Proofs.Ytilpffolldegbaa.Bg
