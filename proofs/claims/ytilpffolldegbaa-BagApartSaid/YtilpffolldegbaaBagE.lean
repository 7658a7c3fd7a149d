/- A bag's calls: a packet is taken out. Conditions: none. -/
import Derived.Test.YtilpffolldegbaaBagD
namespace Go.Proofs.Ytilpffolldegbaa.Bg
open Go.RowKit Go.Proofs.Ytilpffolldegbaa.Mem
set_option linter.unusedVariables false
set_option linter.unusedSimpArgs false

theorem six_of {R : List Value} {k : Nat} (h : R.length = k * 6) (hk : 0 < k) : ∃ r0 r1 r2 r3 r4 r5 R', R = r0 :: r1 :: r2 :: r3 :: r4 :: r5 :: R' := by
  match R, h with
  | r0 :: r1 :: r2 :: r3 :: r4 :: r5 :: R', _ => exact ⟨_, _, _, _, _, _, _, rfl⟩
  | [], h | [_], h | [_, _], h | [_, _, _], h | [_, _, _, _], h | [_, _, _, _, _], h => simp at h; omega
theorem erase_two {α : Type} (l : List α) (i : Nat) (hi : i < l.length) : l.eraseIdx i = l.take i ++ l.drop (i + 1) := List.eraseIdx_eq_take_drop_succ l i
theorem Bk.past {w : World} {b t : Nat} {L R : List Value} (h : Bk w b t (L ++ R)) (o j : Nat) (ho : o = L.length + j) (u : Value) : Bk (w.setCell ⟨b, o, none⟩ u) b t (L ++ R.set j u) := by
  subst ho
  have := h.set (L.length + j) u
  rwa [List.set_append_right _ _ (by omega), Nat.add_sub_cancel_left] at this
theorem Bk.pastc {w : World} {b t : Nat} {L R : List Value} (h : Bk w b t (L ++ R)) (o j : Nat) (ho : o = L.length + j) {u : Value} (hu : R[j]? = some u) : w.cell? ⟨b, o, none⟩ = some u := by
  subst ho
  rw [h.cell, List.getElem?_append_right (by omega), Nat.add_sub_cancel_left, hu]

def zPk : Value := .agg #[.int .i64 0, .int .i64 0, .int .i64 0, .int .i64 0, .int .i64 0, .slice none 0 0]
theorem zero_pk (w : World) : (zeroValue 31).run Try.prog w = .ok zPk w := by kernel_rfl
theorem run_clear_pk {w : World} {b o c ty : Nat} {L R' : List Value} {q0 q1 q2 q3 q4 q5 : Value} (h : Bk w b 31 (L ++ (q0 :: q1 :: q2 :: q3 :: q4 :: q5 :: R'))) (ho : o = L.length) :
    ∃ w', (Builtin.clear_ #[45] ty #[.slice (some ⟨b, o, none⟩) 1 c]).run Try.prog w = .ok (.tuple #[]) w' ∧ Bk w' b 31 (L ++ ([.int .i64 0, .int .i64 0, .int .i64 0, .int .i64 0, .int .i64 0, .slice none 0 0] ++ R')) ∧ Fr (fun k => k = b) w w' := by
  have hst := run_storeCells_at Try.prog b o 31 [.int .i64 0, .int .i64 0, .int .i64 0, .int .i64 0, .int .i64 0, .slice none 0 0] 0 (L ++ (q0 :: q1 :: q2 :: q3 :: q4 :: q5 :: R')).toArray w h (by rw [ho]; simp) (by simp [Value.oneCell'])
  have hz : (Builtin.zeroCells zPk.cells 1).toList = [Value.int .i64 0, .int .i64 0, .int .i64 0, .int .i64 0, .int .i64 0, .slice none 0 0] := by kernel_rfl
  have e : (L ++ (q0 :: q1 :: q2 :: q3 :: q4 :: q5 :: R')).toArray.toList.take (o + 0) ++ [.int .i64 0, .int .i64 0, .int .i64 0, .int .i64 0, .int .i64 0, .slice none 0 0] ++ (L ++ (q0 :: q1 :: q2 :: q3 :: q4 :: q5 :: R')).toArray.toList.drop (o + 0 + [Value.int .i64 0, .int .i64 0, .int .i64 0, .int .i64 0, .int .i64 0, .slice none 0 0].length) =
      L ++ ([.int .i64 0, .int .i64 0, .int .i64 0, .int .i64 0, .int .i64 0, .slice none 0 0] ++ R') := by
    rw [List.toList_toArray, Nat.add_zero, ho, List.take_left, List.append_assoc, List.drop_append]
    simp
  rw [e] at hst
  refine ⟨_, ?_, setRow_heap w b _ _ 31 _ h, ⟨rfl, rfl, rfl, by simp [World.setRow], fun k hk hne => setRow_other w b k _ hne⟩⟩
  simp only [Builtin.clear_]
  simp [run_underlying Try.underlying45]
  rw [show (Builtin.zeroCells (Value.agg #[Value.int .i64 0, .int .i64 0, .int .i64 0, .int .i64 0, .int .i64 0, .slice none 0 0]).cells 1).toList = [Value.int .i64 0, .int .i64 0, .int .i64 0, .int .i64 0, .int .i64 0, .slice none 0 0] from hz, hst]
  rfl
set_option maxHeartbeats 1000000 in
theorem pDelete {H : Nat → Prop} {ps : List Pk} {r c : Nat} (i m : Nat) (w : World) (hp : PR H w (some r) (.slice (some ⟨r, 0, none⟩) ps.length c) ps) (hm : ps.length = m + 1) (hi : i ≤ m) :
    Calls Try.prog 37 #[.slice (some ⟨r, 0, none⟩) (m + 1) c, .int .i64 (i : Int), .int .i64 ((i : Int) + 1)] w fun e w' => e = .returned (.slice (some ⟨r, 0, none⟩) m c) ∧ PR H w' (some r) (.slice (some ⟨r, 0, none⟩) m c) (ps.eraseIdx i) ∧ Fr (fun k => k = r) w w' := by
  obtain ⟨ch, hrow, hall⟩ := hp
  rw [hm] at hrow
  obtain ⟨sp, hk, hsp, hc, hmax⟩ := hrow.open_
  have hlens := PR.lens hall
  have hchl : ch.length = m + 1 := by rw [← hall.1, hm]
  unfold maxLen at hmax
  -- the pieces
  have hpre : (ch.flatten ++ sp).take (i * 6) = (ch.take i).flatten := by rw [List.take_append_of_le_length (by rw [flat_len hlens]; exact Nat.mul_le_mul_right _ (by omega)), flat_take i hlens]
  have hL : ((ch.take i).flatten).length = i * 6 := by rw [flat_len (sz := 6) (fun c hc => hlens c (List.mem_of_mem_take hc)), List.length_take, Nat.min_eq_left (by omega)]
  have hN : ((ch.drop (i + 1)).flatten).length = (m - i) * 6 := by rw [flat_len (sz := 6) (fun c hc => hlens c (List.mem_of_mem_drop hc)), List.length_drop, hchl]; congr 1; omega
  have hfl : ch.flatten.length = (m + 1) * 6 := by rw [flat_len hlens, hchl]
  have hrest : ∃ R, (ch.flatten ++ sp).drop (i * 6 + ((ch.drop (i + 1)).flatten).length) = R ∧ R.length = (c - m) * 6 := ⟨_, rfl, by rw [List.length_drop, List.length_append, hfl, hsp, hN]; omega⟩
  obtain ⟨R, hR, hRl⟩ := hrest
  obtain ⟨q0, q1, q2, q3, q4, q5, R', rfl⟩ := six_of hRl (by omega)
  have HALL := Lib.hid (show All2 (PkC H w) (ps.eraseIdx i) (ch.take i ++ ch.drop (i + 1)) by rw [erase_two _ _ (by omega)]; exact (hall.take i).append (hall.drop (i + 1)))
  obtain ⟨L, hLd⟩ : ∃ L, (ch.take i).flatten ++ (ch.drop (i + 1)).flatten = L := ⟨_, rfl⟩
  have hLL : L.length = m * 6 := by rw [← hLd, List.length_append, hL, hN]; omega
  have HLD := Lib.hid (show L = (ch.take i ++ ch.drop (i + 1)).flatten by rw [← hLd, List.flatten_append])
  have HK := Lib.hid hk
  have hnew : ∀ j u, ((ch.drop (i + 1)).flatten)[j]? = some u → w.cell? ⟨r, (i + 1) * 6 + j, none⟩ = some u := fun j u hj => by
    rw [hk.cell, List.getElem?_append_left (by
      have := (List.getElem?_eq_some_iff.1 hj).1
      rw [hN] at this
      rw [hfl]; omega), ← List.getElem?_drop, flat_drop (i + 1) hlens, hj]
  have HNEW := Lib.hid hnew
  have hone : ∀ u ∈ (ch.drop (i + 1)).flatten, u.oneCell' = true := fun u hu => by
    obtain ⟨cs, hcs, hu⟩ := List.mem_flatten.1 hu
    obtain ⟨j, hj, rfl⟩ := List.mem_iff_getElem.1 (List.mem_of_mem_drop hcs)
    obtain ⟨A, cc, e, _, _⟩ := hall.2 j _ _ (List.getElem?_eq_getElem (show j < ps.length by omega)) (List.getElem?_eq_getElem hj)
    rw [e] at hu
    simp only [Pk.cells, List.mem_cons, List.not_mem_nil, or_false] at hu
    rcases hu with rfl | rfl | rfl | rfl | rfl | rfl <;> rfl
  have HONE := Lib.hid hone
  obtain ⟨A, hA⟩ : ∃ A : Option Addr, (if c = i + 1 then some (⟨r, 0, none⟩ : Addr) else some ⟨r, (i + 1) * 6, none⟩) = A := ⟨_, rfl⟩
  have HA := Lib.hid (show 0 < m - i → ∃ ad, A = some ad ∧ ∀ j u, ((ch.drop (i + 1)).flatten)[j]? = some u → w.cell? (ad.add j) = some u from fun h => by
    rw [if_neg (by omega)] at hA
    subst hA
    refine ⟨_, rfl, fun j u hj => ?_⟩
    rw [show (⟨r, (i + 1) * 6, none⟩ : Addr).add j = ⟨r, (i + 1) * 6 + j, none⟩ by unfold Addr.add; split <;> simp_all]
    exact hnew j u hj)
  have hpre' := Lib.hid hpre
  have HR := Lib.hid hR
  have HN := Lib.hid hN
  have HL := Lib.hid hL
  have HFL := Lib.hid hfl
  have HSP := Lib.hid hsp
  have HLD2 := Lib.hid hLd
  have HLL := Lib.hid hLL
  have HCH := Lib.hid (show ∀ p cs, PkC H w p cs → PkC H w p cs from fun _ _ h => h)
  have hw1 : IntKind.i64.wrap ((i : Int) + 1) = (i : Int) + 1 := IntWalk.i64_in _ (by omega)
  have hne : ((i : Int) == (i : Int) + 1) = false := by simp; omega
  have hne2 : decide ((i : Int) = (i : Int) + 1) = false := by simp; omega
  have hic : i ≤ c := by omega
  have hi0 : (0 : Int) ≤ (i : Int) + 1 := by omega
  have HRL := Lib.hid hRl
  have HBT := Lib.hid hk.bt
  have HEL := Lib.hid (show (ps.eraseIdx i).length = m by rw [List.length_eraseIdx, if_pos (by omega), hm]; rfl)
  have HMAX := Lib.hid hmax
  clear hrow hk hsp hlens hpre hL hN hfl hR hRl hnew hone hall hLd hLL hm
  go_enter Try.func37, Try.ntmps37
  go_wp2
  go_still_tail 6, (by kernel_rfl)
  change wpList _ _ _ _ _ w.drew
  generalize hw2 : w.drew = w2
  have HK2 := Lib.hid (show Bk w2 r 31 (ch.flatten ++ sp) by rw [← hw2]; exact HK.out)
  have HA2 := Lib.hid (fun h => show ∃ ad, A = some ad ∧ ∀ j u, ((ch.drop (i + 1)).flatten)[j]? = some u → w2.cell? (ad.add j) = some u by rw [← hw2]; exact HA.out h)
  have HF2 := Lib.hid (show Fr No w w2 by rw [← hw2]; exact (Fr.refl _ _).drew)
  clear hw2 HK HA HNEW
  go_wp2_with (at_builtin; refine wl_append_in w2 rfl (.tmp 22) (.tmp 25) 45 rfl 31 _ 6 64 Try.underlying45 infoPk r i c rfl _ HK2.out A (m - i) (c - (i + 1)) rfl _ HN.out HA2.out HONE.out m (by omega) (by omega) (by rw [HN.out, List.length_append, HFL.out]; omega) ?_; intro w3 hB3 hF3)
  have hB3' : Bk w3 r 31 (L ++ (q0 :: q1 :: q2 :: q3 :: q4 :: q5 :: R')) := by
    rw [hpre'.out, HR.out] at hB3
    rw [← HLD2.out]
    exact hB3
  obtain ⟨w4, hrun, hB4, hF4⟩ := run_clear_pk (ty := 0) (c := c - m) hB3' HLL.out.symm
  rw [hrun]
  have HB4 := Lib.hid hB4
  have HF4 := Lib.hid (((HF2.out.mono (S' := fun k => k = r) (fun _ _ q => q.elim)).then_ hF3).then_ hF4)
  clear hrun hB3 hB3' hF3 hF4 hB4
  go_wp2
  go_ret
  refine ⟨rfl, ⟨_, ?_, HALL.out.imp (fun p cs h => h.fr HF4.out ?_)⟩, HF4.out⟩
  · rw [HEL.out, ← HLD.out]
    refine Row.shut HB4.out HLL.out ?_ (by omega) HMAX.out
    rw [← HRL.out]
    simp
  · intro k hk h8
    subst hk
    exact absurd rfl (HBT.out.ne h8 (by decide))
end Go.Proofs.Ytilpffolldegbaa.Bg
