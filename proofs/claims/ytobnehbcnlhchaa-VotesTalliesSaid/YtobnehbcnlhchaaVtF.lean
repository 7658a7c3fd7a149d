/- Two tallies and the document's: what a range over each tells: walked. Conditions: none. -/
import Derived.Test.YtobnehbcnlhchaaVtE
import Derived.Test.YtobnehbcnlhchaaVtT
import Derived.Deep.DeepCutAuto
namespace Go.Proofs.Ytobnehbcnlhchaa.Vt
open Go.RowKit Go.Proofs.Ytobnehbcnlhchaa.Mem Go.Shelf Go.Sort
set_option linter.unusedVariables false
set_option linter.unusedSimpArgs false
attribute [local go_sem] Oper.semAt_some
theorem Fr.ofB {B : Nat} {w w1 : World} (h : Below B w w1) : Fr (fun k => B ≤ k) w w1 := ⟨h.os, h.tape, h.output, h.size, fun k _ hn => h.block k (Nat.lt_of_not_le hn)⟩
theorem bk_kept {w w1 : World} {b t : Nat} {cs : List Value} {row : Option Nat} (h : Bk w b t cs) (hg : w.grownBy w1 row) (hr : ∀ r, row = some r → ∃ o : Obj, w.heap[r]? = some o ∧ o.isCells = false) : Bk w1 b t cs := (grownBy_keeps_cells hg hr h rfl).trans h
def cellNat (w : World) (b : Nat) : Nat := match w.cell? ⟨b, 0, none⟩ with
  | some (.int _ i) => i.toNat
  | _ => 0
theorem cellNat_is {w : World} {b t : Nat} {k : IntKind} {i : Int} (h : Bk w b t [.int k i]) : cellNat w b = i.toNat := by
  unfold cellNat
  rw [h.cell 0]
  rfl
theorem ko_fr {S : Nat → Prop} {w w1 : World} (h : Fr S w w1) (hS : ∀ k, S k → k < w.heap.size → ∃ t, BT w k t) : KeepsOthers w w1 := ⟨h.size, fun k o hk ho => by
  by_cases hs : S k
  · obtain ⟨t, cs, fr, hb⟩ := hS k hs (Array.getElem?_eq_some_iff.1 hk).1
    rw [hb] at hk
    cases hk
    cases ho
  · exact (h.block k (Array.getElem?_eq_some_iff.1 hk).1 hs).trans hk⟩
theorem fr_grow (w : World) (n : Nat) (os : Array Obj) : Fr No w (grow (w.drewN n) os) := ⟨rfl, rfl, rfl, by simp [grow, World.drewN], fun k hk _ => heap_grow_old (w.drewN n) os hk⟩
theorem text_grown (v : Int) (w : World) : Calls Try.prog 40 #[.int .i64 v] w fun e w' => e = .returned (.string (textV v)) ∧ ∃ q os', w' = grow (w.drewN q) os' :=
  (text_is v w).mono fun e w' ⟨h1, h2⟩ => ⟨h1, 0, #[.cells (bv (textL v)).toArray 5 (0, 0)], by rw [h2, alloc_eq_grow]; rfl⟩
theorem toList_ne {p q : ByteArray} (h : p ≠ q) : (p.toList == q.toList) = false := by
  rw [beq_eq_false_iff_ne]
  intro e
  rw [ByteArray.toList_eq, ByteArray.toList_eq] at e
  cases p; cases q
  simp_all
/-- a range over a function whose body may break out of the block about it: both ways meet -/
theorem range_meet {α : Type} {P : Program} {g : Operand} {ps : Array Tmp} {assign body : Code} {Q : Exit → Act → World → Prop} {a : Act} {w : World} {gf : Nat} {lb : Array Value} (hg : a.eval g = .func (.func gf) #[] lb) (eg : ∀ args w, (callFunc gf args).run P w = .ok (.enter gf args) w)
    {encs : α → Array Value} {S Sp : List α → Prop} {N n0 : Nat} (hseq : SeqStopsK Fence.wide 8 P gf lb encs (Below n0) S Sp N w) (hn0 : n0 ≤ w.heap.size) (hps : ∀ x, (encs x).size = ps.size) (e : Nat) (I Ix : List α → World → Prop) (hI : OwnFrom w.heap.size I) (hIx : OwnFrom w.heap.size Ix) (h0 : I [] w) (M : World → Prop) (a₁ : α → Act)
    (hassign : ∀ (l : Nat) (x : α) (W : World) (K : Act → World → Prop), K (a₁ x) W → assign.wpIn (Fence.wide.inRound l) (9 - 1 - 1) P (Exit.then K (fun _ _ _ => False)) { tmps := (ps.zip (encs x)).foldl (fun t (p, v) => t.setIfInBounds p v) a.tmps, defers := [] } W)
    (hbody : ∀ (l : Nat) (pre : List α) (x : α) (W : World), I pre W → pre.length < N → body.wpIn (Fence.wide.inRound l) (9 - 1 - 1) P (ownPostK (Below n0) I (fun c pre W => (c = .exit e ∧ Ix pre W) ∨ (c = .ret ∧ ¬ Sp pre)) (pre ++ [x]) W) (a₁ x) W)
    (hd : ∀ xs W, S xs → I xs W → M W) (hs : ∀ pre W, Sp pre → Ix pre W → M W) (hq : ∀ a w, Q .normal a w → Q (.exit e) a w)
    (rest : ∀ (D : Nat) (W : World), w.heap.size ≤ D → M W → W.heap[D]? = some (.deferred (some [])) → Q .normal { a with defers := { target := .collected D, args := #[] } :: a.defers } W) :
    (Code.rangeFunc g ps assign body).wp P Q a w := by
  refine wpIn_wide.1 (wpIn_rangeFunc_ownF (F := Fence.wide) (n := 9) rfl (by omega) hg trivial eg hseq belowK_t (belowK_b hn0) (Below.refl _ _) hps I (fun c pre W => (c = .exit e ∧ Ix pre W) ∨ (c = .ret ∧ ¬ Sp pre)) hI ?_ h0 a₁ hassign hbody ?_ ?_)
  · intro c pre A B row hx hg hr
    rcases hx with ⟨h1, h2⟩ | h
    · exact .inl ⟨h1, hIx pre A B row h2 hg hr⟩
    · exact .inr h
  · intro D xs W hD hS hI hK
    exact rest D W hD (hd xs W hS hI) hK
  · intro D c pre W hD hS hx hK
    rcases hx with ⟨rfl, h2⟩ | ⟨_, h⟩
    · exact wpIn_exit (hq _ _ (rest D W hD (hs pre W hS h2) hK))
    · exact absurd hS h
set_option maxHeartbeats 40000000 in
set_option maxRecDepth 100000 in
theorem thAll {w : World} {t : TB} {n : Nat} {said : List Int} {spoke : List Bool} (h : Th w t n said spoke) (m : Nat) (hm1 : 1 ≤ m) (hm2 : m ≤ 1000) :
    Calls Try.prog 20 #[t.v, .int .i64 (m : Int)] w fun e w' => e = .returned (.bool true) ∧ Fr No w w' := by
  obtain ⟨hl1, hl2⟩ := h.r.len
  have hlo := h.lo
  have hhi := h.hi
  obtain ⟨N, hN⟩ : ∃ N, w.heap.size = N := ⟨_, rfl⟩
  have HLT := Lib.hid (fun k (hk : t.has k) => show k < N by rw [← hN]; exact h.lt hk)
  have HTH := Lib.hid h
  have HN := Lib.hid hN
  obtain ⟨ta, tb, tr, ts, tp⟩ := t
  unfold TB.v
  dsimp only
  obtain ⟨w5, hw5⟩ : ∃ w5, ((((w.alloc (.cells #[.pointer (some ⟨ta, 0, none⟩), .pointer (some ⟨tb, 0, none⟩), .pointer (some ⟨tr, 0, none⟩)] 44 (0, 0))).alloc (.cells #[.int .i64 (m : Int)] 3 (0, 0))).alloc (.cells #[.bool false] 4 (0, 0))).alloc (.cells #[.int .i64 0] 3 (0, 0))).alloc (.cells #[.int .i64 0] 3 (0, 0)) = w5 := ⟨_, rfl⟩
  have HW5 := Lib.hid hw5
  clear hl1 hl2 h hN hw5
  refine (callsIn_wide (n := 9)).1 ?_
  refine callsIn_of_wp_marks Try.func20 rfl trivial ?_ rfl
  simp only [Try.ntmps20, List.size_toArray, List.length_cons, List.length_nil, Nat.reduceAdd, Nat.reduceSub, Array.replicate_succ, Array.replicate_zero, List.push_toArray, List.append_toArray, List.nil_append, List.cons_append]
  rw [wpIn_wide]
  go_upto_region 3 with (fail)
  rw [HN.out]
  rw [HW5.out]
  have hFw : Fr No w w5 := by rw [← HW5.out]; exact (((((Fr.refl _ _).alloc _).alloc _).alloc _).alloc _).alloc _
  have hz0 : w5.heap.size = N + 5 := by rw [← HW5.out]; simp [HN.out]
  obtain ⟨N1, h1⟩ : ∃ x, N + 1 = x := ⟨_, rfl⟩
  obtain ⟨N2, h2⟩ : ∃ x, N1 + 1 = x := ⟨_, rfl⟩
  obtain ⟨N3, h3⟩ : ∃ x, N2 + 1 = x := ⟨_, rfl⟩
  obtain ⟨N4, h4⟩ : ∃ x, N3 + 1 = x := ⟨_, rfl⟩
  obtain ⟨N5, h5⟩ : ∃ x, N4 + 1 = x := ⟨_, rfl⟩
  obtain ⟨N6, h6⟩ : ∃ x, N5 + 1 = x := ⟨_, rfl⟩
  have hz : w5.heap.size = N5 := by omega
  have hsz : ∀ (W : World) (o : Obj), (W.alloc o).heap.size = W.heap.size + 1 := fun W o => by simp
  have HB0 := Lib.hid (show Bk w5 N 44 [.pointer (some ⟨ta, 0, none⟩), .pointer (some ⟨tb, 0, none⟩), .pointer (some ⟨tr, 0, none⟩)] by
    rw [← HW5.out, ← HN.out]
    exact ((((Bk.new w 44 [.pointer (some ⟨ta, 0, none⟩), .pointer (some ⟨tb, 0, none⟩), .pointer (some ⟨tr, 0, none⟩)]).alloc _).alloc _).alloc _).alloc _)
  have HB1 := Lib.hid (show Bk w5 N1 3 [.int .i64 (m : Int)] by
    have e : N1 = (w.alloc (.cells #[.pointer (some ⟨ta, 0, none⟩), .pointer (some ⟨tb, 0, none⟩), .pointer (some ⟨tr, 0, none⟩)] 44 (0, 0))).heap.size := by simp only [hsz, HN.out]; omega
    rw [← HW5.out, e]
    exact (((Bk.new _ 3 [.int .i64 (m : Int)]).alloc _).alloc _).alloc _)
  have HB2 := Lib.hid (show Bk w5 N2 4 [.bool false] by
    have e : N2 = ((w.alloc (.cells #[.pointer (some ⟨ta, 0, none⟩), .pointer (some ⟨tb, 0, none⟩), .pointer (some ⟨tr, 0, none⟩)] 44 (0, 0))).alloc (.cells #[.int .i64 (m : Int)] 3 (0, 0))).heap.size := by simp only [hsz, HN.out]; omega
    rw [← HW5.out, e]
    exact ((Bk.new _ 4 [.bool false]).alloc _).alloc _)
  have HB3 := Lib.hid (show Bk w5 N3 3 [.int .i64 0] by
    have e : N3 = (((w.alloc (.cells #[.pointer (some ⟨ta, 0, none⟩), .pointer (some ⟨tb, 0, none⟩), .pointer (some ⟨tr, 0, none⟩)] 44 (0, 0))).alloc (.cells #[.int .i64 (m : Int)] 3 (0, 0))).alloc (.cells #[.bool false] 4 (0, 0))).heap.size := by simp only [hsz, HN.out]; omega
    rw [← HW5.out, e]
    exact (Bk.new _ 3 [.int .i64 0]).alloc _)
  have HB4 := Lib.hid (show Bk w5 N4 3 [.int .i64 0] by
    have e : N4 = ((((w.alloc (.cells #[.pointer (some ⟨ta, 0, none⟩), .pointer (some ⟨tb, 0, none⟩), .pointer (some ⟨tr, 0, none⟩)] 44 (0, 0))).alloc (.cells #[.int .i64 (m : Int)] 3 (0, 0))).alloc (.cells #[.bool false] 4 (0, 0))).alloc (.cells #[.int .i64 0] 3 (0, 0))).heap.size := by simp only [hsz, HN.out]; omega
    rw [← HW5.out, e]
    exact Bk.new _ 3 [.int .i64 0])
  have HF5 := Lib.hid hFw
  have HTH5 := Lib.hid (HTH.out.fr hFw (fun _ _ q => q))
  clear hsz hFw HW5 HTH
  try rw [h1]
  try rw [h2]
  try rw [h3]
  try rw [h4]
  obtain ⟨x0, x1, x2, xf⟩ := HB0.out.three
  go_wp2_with fail
  refine ((callsIn_wide (n := 9)).1 (VtI.all_in Fence.wide 9 trivial rfl (some ⟨ta, 0, none⟩) w5)).mono ?_
  rintro e w6 ⟨rfl, hw6⟩
  rw [hz]
  have hF6 : Fr No w5 w6 := by rw [hw6]; exact (Fr.refl _ _).alloc _
  have hz6 : w6.heap.size = N6 := by rw [hw6, ← h6, ← hz]; simp
  have HB0 := Lib.hid (HB0.out.fr hF6 id)
  have HB1 := Lib.hid (HB1.out.fr hF6 id)
  have HB2 := Lib.hid (HB2.out.fr hF6 id)
  have HB3 := Lib.hid (HB3.out.fr hF6 id)
  have HB4 := Lib.hid (HB4.out.fr hF6 id)
  have HB5 := Lib.hid (show Bk w6 N5 40 [.pointer (some ⟨ta, 0, none⟩)] by rw [hw6, ← hz]; exact Bk.new w5 40 [.pointer (some ⟨ta, 0, none⟩)])
  have HF6 := Lib.hid (HF5.out.then_ hF6)
  have HTH6 := Lib.hid (HTH5.out.fr hF6 (fun _ _ q => q))
  clear hF6 hw6 x0 x1 x2 xf HF5 HTH5
  obtain ⟨x0, x1, x2, xf⟩ := HB0.out.three
  go_wp2_with fail
  refine ((callsIn_wide (n := 9)).1 (VtS.all_in Fence.wide 9 trivial rfl (some ⟨tb, 0, none⟩) w6)).mono ?_
  rintro e w7 ⟨rfl, hw7⟩
  rw [hz6]
  have hF7 : Fr No w6 w7 := by rw [hw7]; exact (Fr.refl _ _).alloc _
  have hz7 : w7.heap.size = N6 + 1 := by rw [hw7, ← hz6]; simp
  have HB0 := Lib.hid (HB0.out.fr hF7 id)
  have HB1 := Lib.hid (HB1.out.fr hF7 id)
  have HB2 := Lib.hid (HB2.out.fr hF7 id)
  have HB3 := Lib.hid (HB3.out.fr hF7 id)
  have HB4 := Lib.hid (HB4.out.fr hF7 id)
  have HB5 := Lib.hid (HB5.out.fr hF7 id)
  have HB6 := Lib.hid (show Bk w7 N6 41 [.pointer (some ⟨tb, 0, none⟩)] by rw [hw7, ← hz6]; exact Bk.new w6 41 [.pointer (some ⟨tb, 0, none⟩)])
  have HF7 := Lib.hid (HF6.out.then_ hF7)
  have HTH7 := Lib.hid (HTH6.out.fr hF7 (fun _ _ q => q))
  have hsq1 := VtI.seq_some 65 #[.pointer (some ⟨N5, 0, none⟩)]
  have hsq2 := VtS.seq_some 66 #[.pointer (some ⟨N6, 0, none⟩)]
  clear hF7 hw7 x0 x1 x2 xf HF6 HTH6
  go_wp2
  clear hsq1 hsq2
  obtain ⟨hl1, hl2⟩ := HTH7.out.r.len
  obtain ⟨sI, hsI⟩ : ∃ s, s7 id 0 said spoke = s := ⟨_, rfl⟩
  have HPI := Lib.hid (show ∀ (k : Nat) (b : Bool) (v : Int), k < n → spoke[k]? = some b → said[k]? = some v → VtI.saidT (sI.take (k + 1)) 0 = VtI.saidT (sI.take k) 0 ++ (if b = true then [((k : Int), v)] else []) from fun k b v hk hb hv => by
    have hb' : spoke.getD k false = b := by rw [List.getD_eq_getElem?_getD, hb]; rfl
    have hv' : said.getD k 0 = v := by rw [List.getD_eq_getElem?_getD, hv]; rfl
    have h := s7_get (f := id) (z := (0 : Int)) (said := said) (spoke := spoke) k (by omega)
    rw [hsI, hb', hv'] at h
    rw [VtI.saidT_take sI k _ h]
    cases b <;> simp)
  have HLI := Lib.hid (show (VtI.saidT sI 0).length = cnt spoke by rw [← hsI, saidI said spoke (by omega), upS_len])
  have HEI := Lib.hid (show VtI.saidT (sI.take n) 0 = VtI.saidT sI 0 from by
    have hend : ∀ k, n ≤ k → k ≤ 7 → VtI.saidT (sI.take k) 0 = VtI.saidT (sI.take n) 0 := fun k hk h7 => by
      induction k with
      | zero => have : n = 0 := by omega
                subst this; rfl
      | succ k ih =>
        rcases Nat.lt_or_ge k n with q | q
        · have : k + 1 = n := by omega
          rw [this]
        · have hg : spoke.getD k false = false := by rw [List.getD_eq_getElem?_getD, List.getElem?_eq_none (by omega)]; rfl
          have h := s7_get (f := id) (z := (0 : Int)) (said := said) (spoke := spoke) k (by omega)
          rw [hsI, hg] at h
          rw [VtI.saidT_take sI k _ h, ih q (by omega)]
          simp
    rw [← hend 7 hhi (Nat.le_refl _)]
    have : sI.length = 7 := by rw [← hsI, s7_len]
    rw [List.take_of_length_le (by omega)])
  have hTI := HTH7.out.a
  rw [hsI] at hTI
  have HTI := Lib.hid hTI
  clear hTI hsI
  have HNS := Lib.hid (show N < N2 ∧ N1 < N2 from by omega)
  refine range_meet (gf := 65) (lb := #[.pointer (some ⟨N5, 0, none⟩)]) rfl (enters_of Try.func65 (by kernel_rfl) rfl)
    (VtI.tally_stops Fence.wide 8 trivial rfl (by omega) N5 ta N2 n sI w7 HTI.out (by omega) (by omega) (HB5.out.cell 0)) (by omega) (fun _ => rfl) 0
    (fun pre W => (∃ k : Nat, k ≤ n ∧ pre = VtI.saidT (sI.take k) 0 ∧ Bk W N3 3 [.int .i64 (k : Int)]) ∧ Bk W N4 3 [.int .i64 (pre.length : Int)] ∧ pre.length < m ∧ Bk W N6 41 [.pointer (some ⟨tb, 0, none⟩)] ∧ Bk W N2 4 [.bool false] ∧ Below N2 w7 W)
    (fun pre W => (∃ i : Int, Bk W N3 3 [.int .i64 i]) ∧ Bk W N4 3 [.int .i64 (pre.length : Int)] ∧ pre.length = m ∧ Bk W N6 41 [.pointer (some ⟨tb, 0, none⟩)] ∧ Bk W N2 4 [.bool false] ∧ Below N2 w7 W)
    ?_ ?_ ⟨⟨0, Nat.zero_le _, rfl, HB3.out⟩, HB4.out, by show (0 : Nat) < m; omega, HB6.out, HB2.out, Below.refl _ _⟩
    (fun W => (∃ i : Int, Bk W N3 3 [.int .i64 i]) ∧ Bk W N4 3 [.int .i64 ((min (cnt spoke) m : Nat) : Int)] ∧ Bk W N6 41 [.pointer (some ⟨tb, 0, none⟩)] ∧ Bk W N2 4 [.bool false] ∧ Below N2 w7 W)
    ?a₁ ?assign ?body ?hd ?hs ?hq ?rest
  · rintro pre A B row ⟨⟨k, hk, hp, h3⟩, h4, hlm, h6, h2, hB⟩ hg hr
    have hr' := fun r e => (hr r e).2
    exact ⟨⟨k, hk, hp, bk_kept h3 hg hr'⟩, bk_kept h4 hg hr', hlm, bk_kept h6 hg hr', bk_kept h2 hg hr', hB.grown hg (Nat.le_trans (by omega) hB.size) (fun k e => by have := (hr k e).1; omega)⟩
  · rintro pre A B row ⟨⟨i, h3⟩, h4, hlm, h6, h2, hB⟩ hg hr
    have hr' := fun r e => (hr r e).2
    exact ⟨⟨i, bk_kept h3 hg hr'⟩, bk_kept h4 hg hr', hlm, bk_kept h6 hg hr', bk_kept h2 hg hr', hB.grown hg (Nat.le_trans (by omega) hB.size) (fun k e => by have := (hr k e).1; omega)⟩
  case assign =>
    intro l x W K hK
    gi_wp2
    exact hK
  case hd =>
    rintro xs W rfl ⟨⟨k, hk, hp, h3⟩, h4, hlm, h6, h2, hB⟩
    rw [HLI.out] at h4 hlm
    exact ⟨⟨_, h3⟩, by rw [Nat.min_eq_left (by omega)]; exact h4, h6, h2, hB⟩
  case hs =>
    rintro pre W hp ⟨h3, h4, hlm, h6, h2, hB⟩
    have hle := hp.length_le
    rw [HLI.out] at hle
    rw [hlm] at h4
    exact ⟨h3, by rw [Nat.min_eq_right (by omega)]; exact h4, h6, h2, hB⟩
  case hq =>
    intro a w h
    exact h
  case body =>
    rintro l pre x W ⟨⟨k, hk, hp, h3⟩, h4, hlm, h6, h2, hB⟩ hlen
    have HBW := Lib.hid hB
    have hFB := Fr.ofB hB
    have HTHW := Lib.hid (HTH7.out.fr hFB (fun j hj q => by have := HLT.out j hj; omega))
    have HB0W := Lib.hid (HB0.out.fr hFB (by omega))
    have HB1W := Lib.hid (HB1.out.fr hFB (by omega))
    have HB3W := Lib.hid h3
    have HB4W := Lib.hid h4
    have HB6W := Lib.hid h6
    have HB2W := Lib.hid h2
    have HP := Lib.hid hp
    clear h3 h4 h6 h2 hB hFB hp
    gi_wp2
    gi_loopw [] (fun wr => ∃ k' : Nat, k' ≤ n ∧ Hid (VtI.saidT (sI.take k') 0 = pre) ∧ Hid (Bk wr N3 3 [.int .i64 (k' : Int)]) ∧ Hid (Fr (fun j => j = N3) W wr)) (fun wr => n - cellNat wr N3)
    case atStart => exact ⟨k, hk, HP.out.symm, HB3W.out, Fr.refl _ _⟩
    case round =>
      obtain ⟨k', hk', HP', HB3', HFr⟩ := hrel
      have HTHr := Lib.hid (HTHW.out.fr HFr.out (fun j hj q => by have := HLT.out j hj; omega))
      have HB0r := Lib.hid (HB0W.out.fr HFr.out (by omega))
      have HB1r := Lib.hid (HB1W.out.fr HFr.out (by omega))
      have HB2r := Lib.hid (HB2W.out.fr HFr.out (by omega))
      have HB4r := Lib.hid (HB4W.out.fr HFr.out (by omega))
      have HB6r := Lib.hid (HB6W.out.fr HFr.out (by omega))
      obtain ⟨cs, cp, hb, hs, hp⟩ := HTHr.out.r
      dsimp only at hb hs hp
      obtain ⟨r0, r1, rf⟩ := hb.two
      obtain ⟨x0, x1, x2, xf⟩ := HB0r.out.three
      obtain ⟨c3, cf⟩ := HB3'.out.one
      have hbt : ∀ j, (j = N2 ∨ j = N3 ∨ j = N4) → j < W.heap.size → ∃ t, BT W j t := fun j hj _ => by
        rcases hj with rfl | rfl | rfl
        · exact ⟨_, HB2W.out.bt⟩
        · exact ⟨_, HB3W.out.bt⟩
        · exact ⟨_, HB4W.out.bt⟩
      have HRB := Lib.hid hb
      by_cases hlt : k' < n
      · obtain ⟨b, hb'⟩ : ∃ b, spoke[k']? = some b := ⟨_, List.getElem?_eq_getElem (by omega)⟩
        obtain ⟨v, hv'⟩ : ∃ v, said[k']? = some v := ⟨_, List.getElem?_eq_getElem (by omega)⟩
        have HcP := Lib.hid (fun W2 (hW2 : Fr No wr W2) => (row_cell (hp.fr hW2 (fun _ _ q => q)) (k := k') (v := .bool b) (by rw [bb, List.getElem?_map, hb']; rfl)).1)
        have HcS := Lib.hid (fun W2 (hW2 : Fr No wr W2) => (row_cell (hs.fr hW2 (fun _ _ q => q)) (k := k') (v := .int .i64 v) (by rw [iv, List.getElem?_map, hv']; rfl)).1)
        have cP := HcP.out wr (Fr.refl _ _)
        have hki : (k' : Int) < (n : Int) := by omega
        have hk0 : (0 : Int) ≤ (k' : Int) := by omega
        have d1 : decide ((k' : Int) < (n : Int)) = true := decide_eq_true hki
        have d1' : decide (k' < n) = true := decide_eq_true hlt
        have d2 : decide ((n : Int) ≤ (k' : Int)) = false := decide_eq_false (by omega)
        have d2' : decide (n ≤ k') = false := decide_eq_false (by omega)
        have HPK := Lib.hid (HPI.out k' b v hlt hb' hv')
        have hw1 : IntKind.i64.wrap ((k' : Int) + 1) = (k' : Int) + 1 := IntWalk.i64_in _ (by omega)
        clear hb hs hp hb' hv'
        cases b with
        | false =>
          gi_wp2
          refine quiet_in_round rfl (by kernel_rfl) (by kernel_rfl) ?_
          repeat (gi_big_quiet_step (fail))
          refine wpQuietIn_nil ?_
          intro _ hw'
          obtain ⟨nq, hw''⟩ := hw'
          subst hw''
          obtain ⟨wnq, hwnq⟩ : ∃ x, wr.drewN nq = x := ⟨_, rfl⟩
          rw [hwnq]
          have hFnq : Fr No wr wnq := by rw [← hwnq]; exact (Fr.refl _ _).drewN _
          clear hwnq
          have b3 := HB3'.out.fr hFnq id
          obtain ⟨d3, df⟩ := b3.one
          gi_wp2
          go_roundw
          case rel => exact ⟨k' + 1, by omega, by show VtI.saidT _ 0 = pre; rw [HPK.out, HP'.out]; simp, b3.set 0 _, (HFr.out.trans hFnq (fun _ _ q => q.elim)).set (p := ⟨N3, 0, none⟩) (.inl rfl) _⟩
          case measure =>
            rw [cellNat_is (show Bk (wnq.setCell ⟨N3, 0, none⟩ (.int .i64 ((k' : Int) + 1))) N3 3 [.int .i64 ((k' : Int) + 1)] from b3.set 0 _), cellNat_is HB3'.out]
            omega
        | true =>
          have HPX := Lib.hid (show VtI.saidT (sI.take (k' + 1)) 0 = pre ++ [((k' : Int), v)] by rw [HPK.out, HP'.out]; simp)
          have HNX := Lib.hid (show ∀ y : Int × Int, y ≠ ((k' : Int), v) → ¬ (pre ++ [y] <+: VtI.saidT sI 0) from fun y hy hpre => by
            have h1 := VtI.saidT_prefix sI (k' + 1)
            rw [HPX.out] at h1
            have h2 := List.prefix_of_prefix_length_le hpre h1 (by simp)
            have h3 := h2.eq_of_length (by simp)
            have h4 := List.append_cancel_left h3
            simp at h4
            exact hy h4)
          obtain ⟨xi, xv⟩ := x
          dsimp only
          gi_wp2
          refine quiet_in_round rfl (by kernel_rfl) (by kernel_rfl) ?_
          repeat (gi_big_quiet_step (fail))
          refine wpQuietIn_nil ?_
          intro _ hw'
          obtain ⟨nq, hw''⟩ := hw'
          subst hw''
          obtain ⟨wnq, hwnq⟩ : ∃ x, wr.drewN nq = x := ⟨_, rfl⟩
          rw [hwnq]
          have hFnq : Fr No wr wnq := by rw [← hwnq]; exact (Fr.refl _ _).drewN _
          clear hwnq
          clear r0 r1 rf x0 x1 x2 xf c3 cf cP
          obtain ⟨y0, y1, y2, yf⟩ := (HB0r.out.fr hFnq id).three
          obtain ⟨d3, df⟩ := (HB3'.out.fr hFnq id).one
          obtain ⟨s0, s1, sf⟩ := (HRB.out.fr hFnq id).two
          have cS := HcS.out wnq hFnq
          by_cases hx : (xi, xv) = ((k' : Int), v)
          · injection hx with hx1 hx2
            subst hx1 hx2
            gi_wp2
            refine quiet_in_round rfl (by kernel_rfl) (by kernel_rfl) ?_
            repeat (gi_big_quiet_step (fail))
            refine wpQuietIn_nil ?_
            intro _ hw'
            obtain ⟨nq2, hw''⟩ := hw'
            subst hw''
            obtain ⟨wnq2, hwnq2⟩ : ∃ x, wnq.drewN nq2 = x := ⟨_, rfl⟩
            rw [hwnq2]
            have hFnq2 : Fr No wnq wnq2 := by rw [← hwnq2]; exact (Fr.refl _ _).drewN _
            clear hwnq2
            clear y0 y1 y2 yf d3 df s0 s1 sf cS
            have hFq : Fr No wr wnq2 := hFnq.then_ hFnq2
            have b3 := HB3'.out.fr hFq id
            have b4 := HB4r.out.fr hFq id
            have b1 := HB1r.out.fr hFq id
            have b6 := HB6r.out.fr hFq id
            have b2 := HB2r.out.fr hFq id
            have hne34 : N4 ≠ N3 := by omega
            have hne13 : N1 ≠ N3 := by omega
            have hne14 : N1 ≠ N4 := by omega
            have hne63 : N6 ≠ N3 := by omega
            have hne64 : N6 ≠ N4 := by omega
            have hne23 : N2 ≠ N3 := by omega
            have hne24 : N2 ≠ N4 := by omega
            have hwl : IntKind.i64.wrap ((pre.length : Int) + 1) = (pre.length : Int) + 1 := IntWalk.i64_in _ (by omega)
            obtain ⟨wz, hwz⟩ : ∃ wz, wnq2.setCell ⟨N3, 0, none⟩ (.int .i64 ((k' : Int) + 1)) = wz := ⟨_, rfl⟩
            obtain ⟨wy, hwy⟩ : ∃ wy, wz.setCell ⟨N4, 0, none⟩ (.int .i64 ((pre.length : Int) + 1)) = wy := ⟨_, rfl⟩
            have b4z : Bk wz N4 3 [.int .i64 (pre.length : Int)] := by rw [← hwz]; exact b4.far (p := ⟨N3, 0, none⟩) hne34 _
            have b3y : Bk wy N3 3 [.int .i64 ((k' : Int) + 1)] := by rw [← hwy, ← hwz]; exact (b3.set 0 _).far (p := ⟨N4, 0, none⟩) (fun e => hne34 e.symm) _
            have b4y : Bk wy N4 3 [.int .i64 ((pre.length : Int) + 1)] := by rw [← hwy]; exact b4z.set 0 _
            have b1y : Bk wy N1 3 [.int .i64 (m : Int)] := by rw [← hwy, ← hwz]; exact (b1.far (p := ⟨N3, 0, none⟩) hne13 _).far (p := ⟨N4, 0, none⟩) hne14 _
            have b6y : Bk wy N6 41 [.pointer (some ⟨tb, 0, none⟩)] := by rw [← hwy, ← hwz]; exact (b6.far (p := ⟨N3, 0, none⟩) hne63 _).far (p := ⟨N4, 0, none⟩) hne64 _
            have b2y : Bk wy N2 4 [.bool false] := by rw [← hwy, ← hwz]; exact (b2.far (p := ⟨N3, 0, none⟩) hne23 _).far (p := ⟨N4, 0, none⟩) hne24 _
            have HFF := Lib.hid (show Fr (fun j => j = N2 ∨ j = N3 ∨ j = N4) W wy by rw [← hwy, ← hwz]; exact (((HFr.out.mono (fun _ _ e => .inr (.inl e)) : Fr (fun j => j = N2 ∨ j = N3 ∨ j = N4) W wr).trans hFq (fun _ _ q => q.elim)).set (p := ⟨N3, 0, none⟩) (.inl (.inr (.inl rfl))) _).set (p := ⟨N4, 0, none⟩) (.inl (.inr (.inr rfl))) _)
            have HSS := Lib.hid (And.intro b3y (And.intro b4y (And.intro b6y b2y)))
            have hws := HBW.out.size
            obtain ⟨d3, df⟩ := b3.one
            obtain ⟨q4, q4f⟩ := b4z.one
            obtain ⟨p4, p4f⟩ := b4y.one
            obtain ⟨q1, q1f⟩ := b1y.one
            rw [← hwz] at q4 q4f
            rw [← hwy, ← hwz] at p4 p4f q1 q1f
            have HWZ := Lib.hid hwz
            have HWY := Lib.hid hwy
            clear b3 b4 b1 b6 b2 b4z b3y b4y b1y b6y b2y hwz hwy
            by_cases hm : pre.length + 1 = m
            · have e1 : (((pre.length : Int) + 1) == (m : Int)) = true := by rw [beq_iff_eq]; omega
              gi_wp2
              rw [HWZ.out, HWY.out]
              exact ⟨ko_fr HFF.out hbt, .inl ⟨rfl, ⟨_, HSS.out.1⟩, by rw [List.length_append]; exact HSS.out.2.1, by rw [List.length_append]; exact hm, HSS.out.2.2.1, HSS.out.2.2.2, Below.fr HBW.out HFF.out (fun j hj => by omega) (by omega)⟩⟩
            · have e1 : (((pre.length : Int) + 1) == (m : Int)) = false := by rw [beq_eq_false_iff_ne]; omega
              gi_wp2
              rw [HWZ.out, HWY.out]
              exact ⟨ko_fr HFF.out hbt, HFF.out.toB (fun j hj => by omega) (by omega), ⟨k' + 1, by omega, HPX.out.symm, HSS.out.1⟩, by rw [List.length_append]; exact HSS.out.2.1, by rw [List.length_append]; show pre.length + 1 < m; omega, HSS.out.2.2.1, HSS.out.2.2.2, Below.fr HBW.out HFF.out (fun j hj => by omega) (by omega)⟩
          · have HNP := Lib.hid (HNX.out (xi, xv) hx)
            by_cases hx1 : xi = (k' : Int)
            · have hx2 : xv ≠ v := fun e => hx (by rw [hx1, e])
              have e1 : (xi != (k' : Int)) = false := by rw [bne_eq_false_iff_eq]; exact hx1
              have e2' : (xv != v) = true := by rw [bne_iff_ne]; exact hx2
              subst hx1
              gi_wp2
              refine quiet_in_round rfl (by kernel_rfl) (by kernel_rfl) ?_
              repeat (gi_big_quiet_step (fail))
              refine wpQuietIn_nil ?_
              intro _ hw'
              obtain ⟨nq2, hw''⟩ := hw'
              subst hw''
              obtain ⟨wnq2, hwnq2⟩ : ∃ x, wnq.drewN nq2 = x := ⟨_, rfl⟩
              rw [hwnq2]
              have hFnq2 : Fr No wnq wnq2 := by rw [← hwnq2]; exact (Fr.refl _ _).drewN _
              clear hwnq2
              have hb2 := HB2r.out.fr (hFnq.then_ hFnq2) id
              obtain ⟨e2, e2f⟩ := hb2.one
              gi_wp2
              exact ⟨ko_fr ((((HFr.out.mono (fun _ _ e => .inr (.inl e)) : Fr (fun j => j = N2 ∨ j = N3 ∨ j = N4) W wr).trans (hFnq.then_ hFnq2) (fun _ _ q => q.elim))).set (p := ⟨N2, 0, none⟩) (.inl (.inl rfl)) _) hbt, .inr ⟨rfl, HNP.out⟩⟩
            · have e1 : (xi != (k' : Int)) = true := by rw [bne_iff_ne]; exact hx1
              gi_wp2
              refine quiet_in_round rfl (by kernel_rfl) (by kernel_rfl) ?_
              repeat (gi_big_quiet_step (fail))
              refine wpQuietIn_nil ?_
              intro _ hw'
              obtain ⟨nq2, hw''⟩ := hw'
              subst hw''
              obtain ⟨wnq2, hwnq2⟩ : ∃ x, wnq.drewN nq2 = x := ⟨_, rfl⟩
              rw [hwnq2]
              have hFnq2 : Fr No wnq wnq2 := by rw [← hwnq2]; exact (Fr.refl _ _).drewN _
              clear hwnq2
              have hb2 := HB2r.out.fr (hFnq.then_ hFnq2) id
              obtain ⟨e2, e2f⟩ := hb2.one
              gi_wp2
              exact ⟨ko_fr ((((HFr.out.mono (fun _ _ e => .inr (.inl e)) : Fr (fun j => j = N2 ∨ j = N3 ∨ j = N4) W wr).trans (hFnq.then_ hFnq2) (fun _ _ q => q.elim))).set (p := ⟨N2, 0, none⟩) (.inl (.inl rfl)) _) hbt, .inr ⟨rfl, HNP.out⟩⟩
      · obtain rfl : k' = n := by omega
        have HNP := Lib.hid (show ¬ (pre ++ [x] <+: VtI.saidT sI 0) from fun hpre => by
          have h := hpre.length_le
          rw [← HEI.out, HP'.out] at h
          simp at h
          omega)
        have d1 : decide ((k' : Int) < (k' : Int)) = false := decide_eq_false (by omega)
        have d2 : decide ((k' : Int) ≤ (k' : Int)) = true := decide_eq_true (by omega)
        clear hb hs hp
        obtain ⟨xi, xv⟩ := x
        dsimp only
        gi_wp2
        refine quiet_in_round rfl (by kernel_rfl) (by kernel_rfl) ?_
        repeat (gi_big_quiet_step (fail))
        refine wpQuietIn_nil ?_
        intro _ hw'
        obtain ⟨nq, hw''⟩ := hw'
        subst hw''
        obtain ⟨wnq, hwnq⟩ : ∃ x, wr.drewN nq = x := ⟨_, rfl⟩
        rw [hwnq]
        have hFnq : Fr No wr wnq := by rw [← hwnq]; exact (Fr.refl _ _).drewN _
        clear hwnq
        clear r0 r1 rf x0 x1 x2 xf c3 cf
        obtain ⟨y0, y1, y2, yf⟩ := (HB0r.out.fr hFnq id).three
        obtain ⟨d3, df⟩ := (HB3'.out.fr hFnq id).one
        obtain ⟨s0, s1, sf⟩ := (HRB.out.fr hFnq id).two
        gi_wp2
        refine quiet_in_round rfl (by kernel_rfl) (by kernel_rfl) ?_
        repeat (gi_big_quiet_step (fail))
        refine wpQuietIn_nil ?_
        intro _ hw'
        obtain ⟨nq2, hw''⟩ := hw'
        subst hw''
        obtain ⟨wnq2, hwnq2⟩ : ∃ x, wnq.drewN nq2 = x := ⟨_, rfl⟩
        rw [hwnq2]
        have hFnq2 : Fr No wnq wnq2 := by rw [← hwnq2]; exact (Fr.refl _ _).drewN _
        clear hwnq2
        have hb2 := HB2r.out.fr (hFnq.then_ hFnq2) id
        obtain ⟨e2, e2f⟩ := hb2.one
        gi_wp2
        exact ⟨ko_fr ((((HFr.out.mono (fun _ _ e => .inr (.inl e)) : Fr (fun j => j = N2 ∨ j = N3 ∨ j = N4) W wr).trans (hFnq.then_ hFnq2) (fun _ _ q => q.elim))).set (p := ⟨N2, 0, none⟩) (.inl (.inl rfl)) _) hbt, .inr ⟨rfl, HNP.out⟩⟩
  case rest =>
    rintro D W ho ⟨⟨i0, h3⟩, h4, h6, h2, hB⟩ hK
    have hFB := Fr.ofB hB
    have hDl : D < W.heap.size := (Array.getElem?_eq_some_iff.1 hK).1
    have hws := hB.size
    have HTHW := Lib.hid (HTH7.out.fr hFB (fun j hj q => by have := HLT.out j hj; omega))
    have HB0W := Lib.hid (HB0.out.fr hFB (by omega))
    have HB1W := Lib.hid (HB1.out.fr hFB (by omega))
    obtain ⟨M, hM⟩ : ∃ M, min (cnt spoke) m = M := ⟨_, rfl⟩
    rw [hM] at h4
    obtain ⟨NC, hNC⟩ : ∃ x, W.heap.size = x := ⟨_, rfl⟩
    obtain ⟨w8, hw8⟩ : ∃ x, (W.setCell ⟨N3, 0, none⟩ (.int .i64 0)).alloc (.cells #[.int .i64 0] 3 (0, 0)) = x := ⟨_, rfl⟩
    have hz8 : w8.heap.size = NC + 1 := by rw [← hw8]; simp [hNC]
    have hszs : (W.setCell ⟨N3, 0, none⟩ (.int .i64 0)).heap.size = NC := by simp [hNC]
    have hF8 : Fr (fun j => j = N3) W w8 := by rw [← hw8]; exact ((Fr.refl (fun j => j = N3) W).set (p := ⟨N3, 0, none⟩) (.inl rfl) _).alloc _
    have HB38 := Lib.hid (show Bk w8 N3 3 [.int .i64 ((0 : Nat) : Int)] by rw [← hw8]; exact (h3.set 0 (.int .i64 0)).alloc _)
    have HBC8 := Lib.hid (show Bk w8 NC 3 [.int .i64 ((0 : Nat) : Int)] by rw [← hw8, ← hszs]; exact Bk.new _ 3 [.int .i64 0])
    have HB48 := Lib.hid (h4.fr hF8 (by omega))
    have HB68 := Lib.hid (h6.fr hF8 (by omega))
    have HB28 := Lib.hid (h2.fr hF8 (by omega))
    have HB08 := Lib.hid (HB0W.out.fr hF8 (by omega))
    have HB18 := Lib.hid (HB1W.out.fr hF8 (by omega))
    have HTH8 := Lib.hid (HTHW.out.fr hF8 (fun j hj q => by have := HLT.out j hj; omega))
    have HK8 := Lib.hid (show w8.heap[D]? = some (.deferred (some [])) from (hF8.block D hDl (by omega)).trans hK)
    have HF8 := Lib.hid (show Fr No w w8 from (HF7.out.trans hFB (fun j hj q => by have := HN.out; omega)).trans hF8 (fun j hj q => by have := HN.out; omega))
    obtain ⟨z3, z3f⟩ := h3.one
    obtain ⟨EP, hEP⟩ : ∃ EP : World → Prop, EP = fun W => Bk W N4 3 [.int .i64 (M : Int)] ∧ W.heap[D]? = some (.deferred (some [])) := ⟨_, rfl⟩
    have HEP8 := Lib.hid (show EP w8 by rw [hEP]; exact ⟨HB48.out, HK8.out⟩)
    have HEPK := Lib.hid (show ∀ (A B : World), EP A → Fr (fun j => j = N2 ∨ j = N3 ∨ j = NC) A B → EP B by
      rw [hEP]
      exact fun A B h hf => ⟨h.1.fr hf (by omega), (hf.block D (Array.getElem?_eq_some_iff.1 h.2).1 (by omega)).trans h.2⟩)
    have HEPO := Lib.hid (show ∀ (A B : World) (row : Option Nat), EP A → A.grownBy B row → (∀ r, row = some r → w8.heap.size ≤ r ∧ ∃ o : Obj, A.heap[r]? = some o ∧ o.isCells = false) → EP B by
      rw [hEP]
      exact fun A B row h hg hr => ⟨bk_kept h.1 hg (fun r e => (hr r e).2), ((Fr.grown (S := fun k => row = some k) hg (fun k e => e)).block D (Array.getElem?_eq_some_iff.1 h.2).1 (fun e => by have := (hr D e).1; omega)).trans h.2⟩)
    have HEPU := Lib.hid (show ∀ A, EP A → Bk A N4 3 [.int .i64 (M : Int)] ∧ A.heap[D]? = some (.deferred (some [])) by rw [hEP]; exact fun A h => h)
    clear hEP
    have HW8 := Lib.hid hw8
    have HNC := Lib.hid hNC
    clear h3 h4 h6 h2 hB hFB hF8 hw8 hK HB0W HB1W HTHW
    go_wp2
    try rw [hszs]
    try rw [HW8.out]
    try rw [HNC.out]
    clear z3 z3f
    obtain ⟨sS, hsS⟩ : ∃ s, s7 textV ByteArray.empty said spoke = s := ⟨_, rfl⟩
    have HPS := Lib.hid (show ∀ (k : Nat) (b : Bool) (v : Int), k < n → spoke[k]? = some b → said[k]? = some v → VtS.saidT (sS.take (k + 1)) 0 = VtS.saidT (sS.take k) 0 ++ (if b = true then [((k : Int), textV v)] else []) from fun k b v hk hb hv => by
      have hb' : spoke.getD k false = b := by rw [List.getD_eq_getElem?_getD, hb]; rfl
      have hv' : said.getD k 0 = v := by rw [List.getD_eq_getElem?_getD, hv]; rfl
      have h := s7_get (f := textV) (z := ByteArray.empty) (said := said) (spoke := spoke) k (by omega)
      rw [hsS, hb', hv'] at h
      rw [VtS.saidT_take sS k _ h]
      cases b <;> simp)
    have HLS := Lib.hid (show (VtS.saidT sS 0).length = cnt spoke by rw [← hsS, saidS said spoke (by omega), upS_len])
    have HES := Lib.hid (show VtS.saidT (sS.take n) 0 = VtS.saidT sS 0 from by
      have hend : ∀ k, n ≤ k → k ≤ 7 → VtS.saidT (sS.take k) 0 = VtS.saidT (sS.take n) 0 := fun k hk h7 => by
        induction k with
        | zero => have : n = 0 := by omega
                  subst this; rfl
        | succ k ih =>
          rcases Nat.lt_or_ge k n with q | q
          · have : k + 1 = n := by omega
            rw [this]
          · have hg : spoke.getD k false = false := by rw [List.getD_eq_getElem?_getD, List.getElem?_eq_none (by omega)]; rfl
            have h := s7_get (f := textV) (z := ByteArray.empty) (said := said) (spoke := spoke) k (by omega)
            rw [hsS, hg] at h
            rw [VtS.saidT_take sS k _ h, ih q (by omega)]
            simp
      rw [← hend 7 hhi (Nat.le_refl _)]
      have : sS.length = 7 := by rw [← hsS, s7_len]
      rw [List.take_of_length_le (by omega)])
    have hTS := HTH8.out.b
    rw [hsS] at hTS
    have HTS := Lib.hid hTS
    clear hTS hsS
    refine range_meet (gf := 66) (lb := #[.pointer (some ⟨N6, 0, none⟩)]) rfl (enters_of Try.func66 (by kernel_rfl) rfl)
      (VtS.tally_stops Fence.wide 8 trivial rfl (by omega) N6 tb N2 n sS w8 HTS.out (by omega) (by omega) (HB68.out.cell 0)) (by omega) (fun _ => rfl) 4
      (fun pre W => (∃ k : Nat, k ≤ n ∧ pre = VtS.saidT (sS.take k) 0 ∧ Bk W N3 3 [.int .i64 (k : Int)]) ∧ Bk W NC 3 [.int .i64 (pre.length : Int)] ∧ pre.length < m ∧ EP W ∧ Bk W N2 4 [.bool false] ∧ Below N2 w8 W)
      (fun pre W => (∃ i : Int, Bk W N3 3 [.int .i64 i]) ∧ Bk W NC 3 [.int .i64 (pre.length : Int)] ∧ pre.length = m ∧ EP W ∧ Bk W N2 4 [.bool false] ∧ Below N2 w8 W)
      ?_ ?_ ⟨⟨0, Nat.zero_le _, rfl, HB38.out⟩, HBC8.out, by show (0 : Nat) < m; omega, HEP8.out, HB28.out, Below.refl _ _⟩
      (fun W => Bk W NC 3 [.int .i64 ((min (cnt spoke) m : Nat) : Int)] ∧ EP W ∧ Bk W N2 4 [.bool false] ∧ Below N2 w8 W)
      ?a₂ ?assign2 ?body2 ?hd2 ?hs2 ?hq2 ?rest2
    · rintro pre A B row ⟨⟨k, hk, hp, h3⟩, h4, hlm, h6, h2, hB⟩ hg hr
      have hr' := fun r e => (hr r e).2
      exact ⟨⟨k, hk, hp, bk_kept h3 hg hr'⟩, bk_kept h4 hg hr', hlm, HEPO.out A B row h6 hg hr, bk_kept h2 hg hr', hB.grown hg (Nat.le_trans (by omega) hB.size) (fun k e => by have := (hr k e).1; omega)⟩
    · rintro pre A B row ⟨⟨i, h3⟩, h4, hlm, h6, h2, hB⟩ hg hr
      have hr' := fun r e => (hr r e).2
      exact ⟨⟨i, bk_kept h3 hg hr'⟩, bk_kept h4 hg hr', hlm, HEPO.out A B row h6 hg hr, bk_kept h2 hg hr', hB.grown hg (Nat.le_trans (by omega) hB.size) (fun k e => by have := (hr k e).1; omega)⟩
    case assign2 =>
      intro l x W K hK
      gi_wp2
      exact hK
    case hd2 =>
      rintro xs W rfl ⟨⟨k, hk, hp, h3⟩, h4, hlm, h6, h2, hB⟩
      rw [HLS.out] at h4 hlm
      exact ⟨by rw [Nat.min_eq_left (by omega)]; exact h4, h6, h2, hB⟩
    case hs2 =>
      rintro pre W hp ⟨h3, h4, hlm, h6, h2, hB⟩
      have hle := hp.length_le
      rw [HLS.out] at hle
      rw [hlm] at h4
      exact ⟨by rw [Nat.min_eq_right (by omega)]; exact h4, h6, h2, hB⟩
    case hq2 =>
      intro a w h
      exact h
    case body2 =>
      rintro l pre x W ⟨⟨k, hk, hp, h3⟩, h4, hlm, h6, h2, hB⟩ hlen
      have HBW := Lib.hid hB
      have hFB := Fr.ofB hB
      have HTHW := Lib.hid (HTH8.out.fr hFB (fun j hj q => by have := HLT.out j hj; omega))
      have HB0W := Lib.hid (HB08.out.fr hFB (by omega))
      have HB1W := Lib.hid (HB18.out.fr hFB (by omega))
      have HB3W := Lib.hid h3
      have HBCW := Lib.hid h4
      have HEPW := Lib.hid h6
      have HB2W := Lib.hid h2
      have HP := Lib.hid hp
      clear h3 h4 h6 h2 hB hFB hp
      gi_wp2
      gi_loopw [] (fun wr => ∃ k' : Nat, k' ≤ n ∧ Hid (VtS.saidT (sS.take k') 0 = pre) ∧ Hid (Bk wr N3 3 [.int .i64 (k' : Int)]) ∧ Hid (Fr (fun j => j = N3) W wr)) (fun wr => n - cellNat wr N3)
      case atStart => exact ⟨k, hk, HP.out.symm, HB3W.out, Fr.refl _ _⟩
      case round =>
        obtain ⟨k', hk', HP', HB3', HFr⟩ := hrel
        have HTHr := Lib.hid (HTHW.out.fr HFr.out (fun j hj q => by have := HLT.out j hj; omega))
        have HB0r := Lib.hid (HB0W.out.fr HFr.out (by omega))
        have HB1r := Lib.hid (HB1W.out.fr HFr.out (by omega))
        have HB2r := Lib.hid (HB2W.out.fr HFr.out (by omega))
        have HBCr := Lib.hid (HBCW.out.fr HFr.out (by omega))
        obtain ⟨cs, cp, hb, hs, hp⟩ := HTHr.out.r
        dsimp only at hb hs hp
        obtain ⟨r0, r1, rf⟩ := hb.two
        obtain ⟨x0, x1, x2, xf⟩ := HB0r.out.three
        obtain ⟨c3, cf⟩ := HB3'.out.one
        have hbt : ∀ j, (j = N2 ∨ j = N3 ∨ j = NC) → j < W.heap.size → ∃ t, BT W j t := fun j hj _ => by
          rcases hj with rfl | rfl | rfl
          · exact ⟨_, HB2W.out.bt⟩
          · exact ⟨_, HB3W.out.bt⟩
          · exact ⟨_, HBCW.out.bt⟩
        have HRB := Lib.hid hb
        by_cases hlt : k' < n
        · obtain ⟨b, hb'⟩ : ∃ b, spoke[k']? = some b := ⟨_, List.getElem?_eq_getElem (by omega)⟩
          obtain ⟨v, hv'⟩ : ∃ v, said[k']? = some v := ⟨_, List.getElem?_eq_getElem (by omega)⟩
          have HcP := Lib.hid (fun W2 (hW2 : Fr No wr W2) => (row_cell (hp.fr hW2 (fun _ _ q => q)) (k := k') (v := .bool b) (by rw [bb, List.getElem?_map, hb']; rfl)).1)
          have HcS := Lib.hid (fun W2 (hW2 : Fr No wr W2) => (row_cell (hs.fr hW2 (fun _ _ q => q)) (k := k') (v := .int .i64 v) (by rw [iv, List.getElem?_map, hv']; rfl)).1)
          have cP := HcP.out wr (Fr.refl _ _)
          have hki : (k' : Int) < (n : Int) := by omega
          have hk0 : (0 : Int) ≤ (k' : Int) := by omega
          have d1 : decide ((k' : Int) < (n : Int)) = true := decide_eq_true hki
          have d1' : decide (k' < n) = true := decide_eq_true hlt
          have d2 : decide ((n : Int) ≤ (k' : Int)) = false := decide_eq_false (by omega)
          have d2' : decide (n ≤ k') = false := decide_eq_false (by omega)
          have HPK := Lib.hid (HPS.out k' b v hlt hb' hv')
          have hw1 : IntKind.i64.wrap ((k' : Int) + 1) = (k' : Int) + 1 := IntWalk.i64_in _ (by omega)
          clear hb hs hp hb' hv'
          cases b with
          | false =>
            gi_wp2
            refine quiet_in_round rfl (by kernel_rfl) (by kernel_rfl) ?_
            repeat (gi_big_quiet_step (fail))
            refine wpQuietIn_nil ?_
            intro _ hw'
            obtain ⟨nq, hw''⟩ := hw'
            subst hw''
            obtain ⟨wnq, hwnq⟩ : ∃ x, wr.drewN nq = x := ⟨_, rfl⟩
            rw [hwnq]
            have hFnq : Fr No wr wnq := by rw [← hwnq]; exact (Fr.refl _ _).drewN _
            clear hwnq
            have b3 := HB3'.out.fr hFnq id
            obtain ⟨d3, df⟩ := b3.one
            gi_wp2
            go_roundw
            case rel => exact ⟨k' + 1, by omega, by show VtS.saidT _ 0 = pre; rw [HPK.out, HP'.out]; simp, b3.set 0 _, (HFr.out.trans hFnq (fun _ _ q => q.elim)).set (p := ⟨N3, 0, none⟩) (.inl rfl) _⟩
            case measure =>
              rw [cellNat_is (show Bk (wnq.setCell ⟨N3, 0, none⟩ (.int .i64 ((k' : Int) + 1))) N3 3 [.int .i64 ((k' : Int) + 1)] from b3.set 0 _), cellNat_is HB3'.out]
              omega
          | true =>
            obtain ⟨T, hT⟩ : ∃ T, textV v = T := ⟨_, rfl⟩
            have HPX := Lib.hid (show VtS.saidT (sS.take (k' + 1)) 0 = pre ++ [((k' : Int), T)] by rw [HPK.out, HP'.out, hT]; simp)
            have HNX := Lib.hid (show ∀ y : Int × ByteArray, y ≠ ((k' : Int), T) → ¬ (pre ++ [y] <+: VtS.saidT sS 0) from fun y hy hpre => by
              have h1 := VtS.saidT_prefix sS (k' + 1)
              rw [HPX.out] at h1
              have h2 := List.prefix_of_prefix_length_le hpre h1 (by simp)
              have h3 := h2.eq_of_length (by simp)
              have h4 := List.append_cancel_left h3
              simp at h4
              exact hy h4)
            obtain ⟨xi, xv⟩ := x
            dsimp only
            gi_wp2
            refine quiet_in_round rfl (by kernel_rfl) (by kernel_rfl) ?_
            repeat (gi_big_quiet_step (fail))
            refine wpQuietIn_nil ?_
            intro _ hw'
            obtain ⟨nq, hw''⟩ := hw'
            subst hw''
            obtain ⟨wnq, hwnq⟩ : ∃ x, wr.drewN nq = x := ⟨_, rfl⟩
            rw [hwnq]
            have hFnq : Fr No wr wnq := by rw [← hwnq]; exact (Fr.refl _ _).drewN _
            clear hwnq
            clear r0 r1 rf x0 x1 x2 xf c3 cf cP
            obtain ⟨y0, y1, y2, yf⟩ := (HB0r.out.fr hFnq id).three
            obtain ⟨d3, df⟩ := (HB3'.out.fr hFnq id).one
            obtain ⟨s0, s1, sf⟩ := (HRB.out.fr hFnq id).two
            have cS := HcS.out wnq hFnq
            by_cases hx1 : xi = (k' : Int)
            · subst hx1
              by_cases hx2 : xv = T
              · subst hx2
                have ee : (xv.toList == xv.toList) = true := by simp
                gi_wp2
                have g0 := cell_grown (HB0r.out.fr hFnq id).lt y2
                have g3 := cell_grown (HB3'.out.fr hFnq id).lt d3
                have g4 := cell_grown (HRB.out.fr hFnq id).lt s0
                have g5 := cell_grown (a := ⟨ts, k', none⟩) (by have := (HTHr.out.fr hFnq (fun _ _ q => q)).r.bts.2.1.lt; exact this) cS
                have HTX := Lib.hid (fun (N : Nat) (os : Array Obj) => text_grown v (grow (wnq.drewN N) os))
                rw [hT] at HTX
                refine grown_in_round rfl (by rintro ⟨_, _, q⟩; exact q) (by kernel_rfl) (by kernel_rfl) ?_
                repeat (go_big_quiet_step (fail))
                refine wpQuiet_step (fun K hK => ?_)
                go_simp
                refine ⟨_, fun _ => Calls.grown_of (HTX.out _ _), hK _ ?_⟩
                clear hK K
                repeat (go_big_quiet_step (fail))
                refine wpQuiet_nil ?_
                intro _ hw'
                obtain ⟨⟨nq2, osq⟩, hw''⟩ := hw'
                subst hw''
                obtain ⟨wnq2, hwnq2⟩ : ∃ x, grow (wnq.drewN nq2) osq = x := ⟨_, rfl⟩
                rw [hwnq2]
                have hFnq2 : Fr No wnq wnq2 := by rw [← hwnq2]; exact fr_grow _ _ _
                clear hwnq2 g0 g3 g4 g5 HTX
                clear y0 y1 y2 yf d3 df s0 s1 sf cS
                have hFq : Fr No wr wnq2 := hFnq.then_ hFnq2
                have b3 := HB3'.out.fr hFq id
                have bC := HBCr.out.fr hFq id
                have b1 := HB1r.out.fr hFq id
                have b2 := HB2r.out.fr hFq id
                have hneC3 : NC ≠ N3 := by omega
                have hne13 : N1 ≠ N3 := by omega
                have hne1C : N1 ≠ NC := by omega
                have hne23 : N2 ≠ N3 := by omega
                have hne2C : N2 ≠ NC := by omega
                have hwl : IntKind.i64.wrap ((pre.length : Int) + 1) = (pre.length : Int) + 1 := IntWalk.i64_in _ (by omega)
                obtain ⟨wz, hwz⟩ : ∃ wz, wnq2.setCell ⟨N3, 0, none⟩ (.int .i64 ((k' : Int) + 1)) = wz := ⟨_, rfl⟩
                obtain ⟨wy, hwy⟩ : ∃ wy, wz.setCell ⟨NC, 0, none⟩ (.int .i64 ((pre.length : Int) + 1)) = wy := ⟨_, rfl⟩
                have bCz : Bk wz NC 3 [.int .i64 (pre.length : Int)] := by rw [← hwz]; exact bC.far (p := ⟨N3, 0, none⟩) hneC3 _
                have b3y : Bk wy N3 3 [.int .i64 ((k' : Int) + 1)] := by rw [← hwy, ← hwz]; exact (b3.set 0 _).far (p := ⟨NC, 0, none⟩) (fun e => hneC3 e.symm) _
                have bCy : Bk wy NC 3 [.int .i64 ((pre.length : Int) + 1)] := by rw [← hwy]; exact bCz.set 0 _
                have b1y : Bk wy N1 3 [.int .i64 (m : Int)] := by rw [← hwy, ← hwz]; exact (b1.far (p := ⟨N3, 0, none⟩) hne13 _).far (p := ⟨NC, 0, none⟩) hne1C _
                have b2y : Bk wy N2 4 [.bool false] := by rw [← hwy, ← hwz]; exact (b2.far (p := ⟨N3, 0, none⟩) hne23 _).far (p := ⟨NC, 0, none⟩) hne2C _
                have HFF := Lib.hid (show Fr (fun j => j = N2 ∨ j = N3 ∨ j = NC) W wy by rw [← hwy, ← hwz]; exact (((HFr.out.mono (fun _ _ e => .inr (.inl e)) : Fr (fun j => j = N2 ∨ j = N3 ∨ j = NC) W wr).trans hFq (fun _ _ q => q.elim)).set (p := ⟨N3, 0, none⟩) (.inl (.inr (.inl rfl))) _).set (p := ⟨NC, 0, none⟩) (.inl (.inr (.inr rfl))) _)
                have HSS := Lib.hid (And.intro b3y (And.intro bCy (And.intro (HEPK.out W wy HEPW.out HFF.out) b2y)))
                have hws := HBW.out.size
                obtain ⟨d3, df⟩ := b3.one
                obtain ⟨q4, q4f⟩ := bCz.one
                obtain ⟨p4, p4f⟩ := bCy.one
                obtain ⟨q1, q1f⟩ := b1y.one
                rw [← hwz] at q4 q4f
                rw [← hwy, ← hwz] at p4 p4f q1 q1f
                have HWZ := Lib.hid hwz
                have HWY := Lib.hid hwy
                clear b3 bC b1 b2 bCz b3y bCy b1y b2y hwz hwy
                by_cases hm : pre.length + 1 = m
                · have e1 : (((pre.length : Int) + 1) == (m : Int)) = true := by rw [beq_iff_eq]; omega
                  gi_wp2
                  rw [HWZ.out, HWY.out]
                  exact ⟨ko_fr HFF.out hbt, .inl ⟨rfl, ⟨_, HSS.out.1⟩, by rw [List.length_append]; exact HSS.out.2.1, by rw [List.length_append]; exact hm, HSS.out.2.2.1, HSS.out.2.2.2, Below.fr HBW.out HFF.out (fun j hj => by omega) (by omega)⟩⟩
                · have e1 : (((pre.length : Int) + 1) == (m : Int)) = false := by rw [beq_eq_false_iff_ne]; omega
                  gi_wp2
                  rw [HWZ.out, HWY.out]
                  exact ⟨ko_fr HFF.out hbt, HFF.out.toB (fun j hj => by omega) (by omega), ⟨k' + 1, by omega, HPX.out.symm, HSS.out.1⟩, by rw [List.length_append]; exact HSS.out.2.1, by rw [List.length_append]; show pre.length + 1 < m; omega, HSS.out.2.2.1, HSS.out.2.2.2, Below.fr HBW.out HFF.out (fun j hj => by omega) (by omega)⟩
              · have HNP := Lib.hid (HNX.out ((k' : Int), xv) (fun e => hx2 (by injection e)))
                have ee : (xv.toList == T.toList) = false := toList_ne hx2
                gi_wp2
                have g0 := cell_grown (HB0r.out.fr hFnq id).lt y2
                have g3 := cell_grown (HB3'.out.fr hFnq id).lt d3
                have g4 := cell_grown (HRB.out.fr hFnq id).lt s0
                have g5 := cell_grown (a := ⟨ts, k', none⟩) (by have := (HTHr.out.fr hFnq (fun _ _ q => q)).r.bts.2.1.lt; exact this) cS
                have HTX := Lib.hid (fun (N : Nat) (os : Array Obj) => text_grown v (grow (wnq.drewN N) os))
                rw [hT] at HTX
                refine grown_in_round rfl (by rintro ⟨_, _, q⟩; exact q) (by kernel_rfl) (by kernel_rfl) ?_
                repeat (go_big_quiet_step (fail))
                refine wpQuiet_step (fun K hK => ?_)
                go_simp
                refine ⟨_, fun _ => Calls.grown_of (HTX.out _ _), hK _ ?_⟩
                clear hK K
                repeat (go_big_quiet_step (fail))
                refine wpQuiet_nil ?_
                intro _ hw'
                obtain ⟨⟨nq2, osq⟩, hw''⟩ := hw'
                subst hw''
                obtain ⟨wnq2, hwnq2⟩ : ∃ x, grow (wnq.drewN nq2) osq = x := ⟨_, rfl⟩
                rw [hwnq2]
                have hFnq2 : Fr No wnq wnq2 := by rw [← hwnq2]; exact fr_grow _ _ _
                clear hwnq2 g0 g3 g4 g5 HTX
                have hFq : Fr No wr wnq2 := hFnq.then_ hFnq2
                have hb2 := HB2r.out.fr hFq id
                obtain ⟨e2, e2f⟩ := hb2.one
                gi_wp2
                exact ⟨ko_fr ((((HFr.out.mono (fun _ _ e => .inr (.inl e)) : Fr (fun j => j = N2 ∨ j = N3 ∨ j = NC) W wr).trans hFq (fun _ _ q => q.elim))).set (p := ⟨N2, 0, none⟩) (.inl (.inl rfl)) _) hbt, .inr ⟨rfl, HNP.out⟩⟩
            · have HNP := Lib.hid (HNX.out (xi, xv) (fun e => hx1 (by injection e)))
              have e1 : (xi != (k' : Int)) = true := by rw [bne_iff_ne]; exact hx1
              gi_wp2
              have g0 := cell_grown (HB0r.out.fr hFnq id).lt y2
              have g3 := cell_grown (HB3'.out.fr hFnq id).lt d3
              have g4 := cell_grown (HRB.out.fr hFnq id).lt s0
              refine grown_in_round rfl (by rintro ⟨_, _, q⟩; exact q) (by kernel_rfl) (by kernel_rfl) ?_
              repeat (go_big_quiet_step (fail))
              refine wpQuiet_nil ?_
              intro _ hw'
              obtain ⟨⟨nq2, osq⟩, hw''⟩ := hw'
              subst hw''
              obtain ⟨wnq2, hwnq2⟩ : ∃ x, grow (wnq.drewN nq2) osq = x := ⟨_, rfl⟩
              rw [hwnq2]
              have hFnq2 : Fr No wnq wnq2 := by rw [← hwnq2]; exact fr_grow _ _ _
              clear hwnq2 g0 g3 g4
              have hFq : Fr No wr wnq2 := hFnq.then_ hFnq2
              have hb2 := HB2r.out.fr hFq id
              obtain ⟨e2, e2f⟩ := hb2.one
              gi_wp2
              exact ⟨ko_fr ((((HFr.out.mono (fun _ _ e => .inr (.inl e)) : Fr (fun j => j = N2 ∨ j = N3 ∨ j = NC) W wr).trans hFq (fun _ _ q => q.elim))).set (p := ⟨N2, 0, none⟩) (.inl (.inl rfl)) _) hbt, .inr ⟨rfl, HNP.out⟩⟩
        · obtain rfl : k' = n := by omega
          have HNP := Lib.hid (show ¬ (pre ++ [x] <+: VtS.saidT sS 0) from fun hpre => by
            have h := hpre.length_le
            rw [← HES.out, HP'.out] at h
            simp at h
            omega)
          have d1 : decide ((k' : Int) < (k' : Int)) = false := decide_eq_false (by omega)
          have d2 : decide ((k' : Int) ≤ (k' : Int)) = true := decide_eq_true (by omega)
          clear hb hs hp
          obtain ⟨xi, xv⟩ := x
          dsimp only
          gi_wp2
          refine quiet_in_round rfl (by kernel_rfl) (by kernel_rfl) ?_
          repeat (gi_big_quiet_step (fail))
          refine wpQuietIn_nil ?_
          intro _ hw'
          obtain ⟨nq, hw''⟩ := hw'
          subst hw''
          obtain ⟨wnq, hwnq⟩ : ∃ x, wr.drewN nq = x := ⟨_, rfl⟩
          rw [hwnq]
          have hFnq : Fr No wr wnq := by rw [← hwnq]; exact (Fr.refl _ _).drewN _
          clear hwnq
          clear r0 r1 rf x0 x1 x2 xf c3 cf
          obtain ⟨y0, y1, y2, yf⟩ := (HB0r.out.fr hFnq id).three
          obtain ⟨d3, df⟩ := (HB3'.out.fr hFnq id).one
          obtain ⟨s0, s1, sf⟩ := (HRB.out.fr hFnq id).two
          gi_wp2
          have g0 := cell_grown (HB0r.out.fr hFnq id).lt y2
          have g3 := cell_grown (HB3'.out.fr hFnq id).lt d3
          have g4 := cell_grown (HRB.out.fr hFnq id).lt s0
          refine grown_in_round rfl (by rintro ⟨_, _, q⟩; exact q) (by kernel_rfl) (by kernel_rfl) ?_
          repeat (go_big_quiet_step (fail))
          refine wpQuiet_nil ?_
          intro _ hw'
          obtain ⟨⟨nq2, osq⟩, hw''⟩ := hw'
          subst hw''
          obtain ⟨wnq2, hwnq2⟩ : ∃ x, grow (wnq.drewN nq2) osq = x := ⟨_, rfl⟩
          rw [hwnq2]
          have hFnq2 : Fr No wnq wnq2 := by rw [← hwnq2]; exact fr_grow _ _ _
          clear hwnq2 g0 g3 g4
          have hFq : Fr No wr wnq2 := hFnq.then_ hFnq2
          have hb2 := HB2r.out.fr hFq id
          obtain ⟨e2, e2f⟩ := hb2.one
          gi_wp2
          exact ⟨ko_fr ((((HFr.out.mono (fun _ _ e => .inr (.inl e)) : Fr (fun j => j = N2 ∨ j = N3 ∨ j = NC) W wr).trans hFq (fun _ _ q => q.elim))).set (p := ⟨N2, 0, none⟩) (.inl (.inl rfl)) _) hbt, .inr ⟨rfl, HNP.out⟩⟩
    case rest2 =>
      rintro D2 W2 ho2 ⟨h4, h6, h2, hB⟩ hK2
      rw [hM] at h4
      obtain ⟨hN4, hKD⟩ := HEPU.out W2 h6
      have hFB := Fr.ofB hB
      have hDl2 : D2 < W2.heap.size := (Array.getElem?_eq_some_iff.1 hK2).1
      have hws2 := hB.size
      have HTH2 := Lib.hid (HTH8.out.fr hFB (fun j hj q => by have := HLT.out j hj; omega))
      have HB02 := Lib.hid (HB08.out.fr hFB (by omega))
      have HB12 := Lib.hid (HB18.out.fr hFB (by omega))
      have HRC := Lib.hid (rCount_ HTH2.out.r hhi)
      obtain ⟨x0, x1, x2, xf⟩ := HB02.out.three
      have HF2 := Lib.hid (show Fr No w W2 from HF8.out.trans hFB (fun j hj q => by have := HN.out; omega))
      have HN4 := Lib.hid hN4
      have HNC2 := Lib.hid h4
      have HN2 := Lib.hid h2
      have HK1 := Lib.hid hKD
      have HK2 := Lib.hid hK2
      have hmc : M = cnt spoke ∨ M = m := by omega
      obtain ⟨C, hC⟩ : ∃ C, cnt spoke = C := ⟨_, rfl⟩
      rw [hC] at HRC hmc
      have HBS := Lib.hid hB
      clear h4 h6 h2 hB hFB hK2 hN4 hKD hC hM
      go_wp2_with fail
      refine HRC.out.mono ?_
      rintro e w3 ⟨rfl, rfl⟩
      clear x0 x1 x2 xf
      obtain ⟨a0, af⟩ := HN4.out.one
      obtain ⟨b0, bf⟩ := HNC2.out.one
      obtain ⟨c0, cf⟩ := HB12.out.one
      obtain ⟨d0, df⟩ := HN2.out.one
      have fin : ∀ v, v = Value.bool true → Fr No w (((w3.setCell ⟨N2, 0, none⟩ v).putObj D2 (.deferred none)).putObj D (.deferred none)) ∧ (((w3.setCell ⟨N2, 0, none⟩ v).putObj D2 (.deferred none)).putObj D (.deferred none)).cell? ⟨N2, 0, none⟩ = some (.bool true) ∧ (w3.setCell ⟨N2, 0, none⟩ v).heap[D2]? = some (.deferred (some [])) ∧ ((w3.setCell ⟨N2, 0, none⟩ v).putObj D2 (.deferred none)).heap[D]? = some (.deferred (some [])) := by
        rintro v rfl
        have hn := HN.out
        have g1 : Fr No w (w3.setCell ⟨N2, 0, none⟩ (.bool true)) := HF2.out.set (p := ⟨N2, 0, none⟩) (.inr (by show w.heap.size ≤ N2; omega)) _
        have k2 : (w3.setCell ⟨N2, 0, none⟩ (.bool true)).heap[D2]? = some (.deferred (some [])) := (Below.heap_setCell w3 ⟨N2, 0, none⟩ (.bool true) D2 (by show D2 ≠ N2; omega)).trans HK2.out
        have k1 : (w3.setCell ⟨N2, 0, none⟩ (.bool true)).heap[D]? = some (.deferred (some [])) := (Below.heap_setCell w3 ⟨N2, 0, none⟩ (.bool true) D (by show D ≠ N2; omega)).trans HK1.out
        have p2 := grownBy_putObj' (w3.setCell ⟨N2, 0, none⟩ (.bool true)) D2 (.deferred none)
        have k1' : ((w3.setCell ⟨N2, 0, none⟩ (.bool true)).putObj D2 (.deferred none)).heap[D]? = some (.deferred (some [])) := ((Fr.grown (S := fun k => k = D2) p2 (fun k e => by cases e; rfl)).block D (Array.getElem?_eq_some_iff.1 k1).1 (by omega)).trans k1
        have p1 := grownBy_putObj' ((w3.setCell ⟨N2, 0, none⟩ (.bool true)).putObj D2 (.deferred none)) D (.deferred none)
        have r0 : (w3.setCell ⟨N2, 0, none⟩ (.bool true)).cell? ⟨N2, 0, none⟩ = some (.bool true) := World.cell?_setCell_same' w3 _ _ (by rw [d0]; rfl)
        have r2 := cell_kept r0 p2 (fun r e => by cases e; exact ⟨_, k2, rfl⟩)
        have r1 := cell_kept r2 p1 (fun r e => by cases e; exact ⟨_, k1', rfl⟩)
        refine ⟨(g1.trans (Fr.grown (S := fun k => k = D2) p2 (fun k e => by cases e; rfl)) (fun j hj e => by omega)).trans (Fr.grown (S := fun k => k = D) p1 (fun k e => by cases e; rfl)) (fun j hj e => by omega), r1, k2, k1'⟩
      obtain ⟨hfin1, hfin2, hfin3, hfin4⟩ := fin _ rfl
      have HFN := Lib.hid (And.intro hfin1 (And.intro hfin3 hfin4))
      have HFC := Lib.hid hfin2
      clear fin hfin1 hfin2 hfin3 hfin4
      have hdec : ((M : Int) == (C : Int)) = true ∨ (((M : Int) == (C : Int)) = false ∧ ((M : Int) == (m : Int)) = true) := by
        by_cases h : M = C
        · exact .inl (by rw [beq_iff_eq]; omega)
        · exact .inr ⟨by rw [beq_eq_false_iff_ne]; omega, by rw [beq_iff_eq]; omega⟩
      clear hmc
      rcases hdec with e1 | ⟨e1, e2⟩
      case' inl => skip
      case' inr => skip
      all_goals
        go_wp2
        refine ⟨by simp, .inl ⟨_, _, rfl, run_takeDeferred HFN.out.2.1, ?_⟩⟩
        refine ⟨by simp, .inl ⟨_, _, rfl, run_takeDeferred HFN.out.2.2, ?_⟩⟩
        have hres := HFC.out
        refine ⟨_, by simp [results, Try.results20, go_sem, hres], rfl, HFN.out.1⟩
end Go.Proofs.Ytobnehbcnlhchaa.Vt
