/- A range within a range over the same tally, which turns meanwhile: walked. Conditions: none. -/
import Derived.Test.YtobnehbcnlhchaaVtN
import Derived.Laws.EntriesVeiled
import Derived.Deep.RegionHeld
namespace Go.Proofs.Ytobnehbcnlhchaa.Vt
open Go.RowKit Go.Proofs.Ytobnehbcnlhchaa.Mem Go.Shelf Go.Sort
set_option linter.unusedVariables false
set_option linter.unusedSimpArgs false
attribute [local go_sem] Oper.semAt_some
/-- what does not panic may be shown as if a panic were nothing -/
theorem wp_calm {P : Program} {c : Code} {K : Act → World → Prop} {Q : Exit → Act → World → Prop} {a : Act} {w : World} (h : c.wp P (Exit.then K (fun _ _ _ => False)) a w) : c.wp P (Exit.then K Q) a w :=
  wp_mono h (fun e a w h => by cases e <;> first | exact h | exact h.elim)
theorem wp_meet {P : Program} {c : Code} {K : Act → World → Prop} {Q : Exit → Act → World → Prop} {a : Act} {w : World} (M : World → Prop) (f : Act → Act) (h : c.wp P (Exit.then (fun a' w => a' = f a ∧ M w) (fun _ _ _ => False)) a w) (hk : ∀ w, M w → K (f a) w) : c.wp P (Exit.then K Q) a w :=
  wp_mono h (fun e a' w h => by
    cases e
    case normal =>
      obtain ⟨h1, h2⟩ := (show a' = f a ∧ M w from h)
      subst h1
      exact hk w h2
    all_goals exact h.elim)
/-- a region that draws its order, within a round: the walk that holds S -/
theorem held_in_round {n l id : Nat} {P : Program} {Q : Exit → Act → World → Prop} {a : Act} {w : World} {ls : List Oper} (S : World → Prop) (hnd : undeferred ls = true) (hQ : ¬ LetsOut Q) (hm : P.follows .mixedOrders = true)
    (h : wpAnyH P .any ls.toArray Q S ls.toArray.size (Array.replicate ls.toArray.size false) a { w with drawn := w.drawn + 1 }) : (Code.region id ls.toArray true).wpIn (Fence.wide.inRound l) n P Q a w :=
  wpIn_region_any hm (any_in_round (undeferred_spec hnd) hQ _ _ _ _ (wpAny_of_held _ _ _ _ h))
/-- a range over a function out of every round, whose body may end the function, and is told of its own record -/
theorem range_own {α : Type} {P : Program} {g : Operand} {ps : Array Tmp} {assign body : Code} {Q : Exit → Act → World → Prop} {a : Act} {w : World} {gf : Nat} {lb : Array Value} (hg : a.eval g = .func (.func gf) #[] lb) (eg : ∀ args w, (callFunc gf args).run P w = .ok (.enter gf args) w)
    {encs : α → Array Value} {S Sp : List α → Prop} {N : Nat} (hseq : SeqStopsK Fence.wide 8 P gf lb encs (Below 0) S Sp N w) (hps : ∀ x, (encs x).size = ps.size) (I : List α → World → Prop) (hI : OwnFrom w.heap.size I) (h0 : I [] w) (a₁ : α → Act)
    (hassign : ∀ (l : Nat) (x : α) (W : World) (K : Act → World → Prop), K (a₁ x) W → assign.wpIn (Fence.wide.inRound l) (9 - 1 - 1) P (Exit.then K (fun _ _ _ => False)) { tmps := (ps.zip (encs x)).foldl (fun t (p, v) => t.setIfInBounds p v) a.tmps, defers := [] } W)
    (hbody : ∀ (l : Nat) (pre : List α) (x : α) (W : World), w.heap.size ≤ l → (∃ r, W.heap[l]? = some (.loop r)) → I pre W → pre.length < N → body.wpIn (Fence.wide.inRound l) (9 - 1 - 1) P (ownPostG w.heap.size (Below 0) I (fun c pre W => c = .ret ∧ ¬ Sp pre) (pre ++ [x]) W) (a₁ x) W)
    (rest : ∀ (D : Nat) (xs : List α) (W : World), w.heap.size ≤ D → S xs → I xs W → W.heap[D]? = some (.deferred (some [])) → Q .normal { a with defers := { target := .collected D, args := #[] } :: a.defers } W) :
    (Code.rangeFunc g ps assign body).wp P Q a w := by
  refine wpIn_wide.1 (wpIn_rangeFunc_ownH (F := Fence.wide) (n := 9) rfl (by omega) hg trivial eg hseq belowK_t (belowK_b (Nat.zero_le _)) (Below.refl _ _) hps I (fun c pre W => c = .ret ∧ ¬ Sp pre) hI (fun c pre A B row h _ _ => h) h0
    (fun x a' _ => a' = a₁ x) (fun x a' s A B row h _ _ => h) ?_ ?_ ?_ ?_)
  · intro l pre x W K hI hK
    exact hassign l x W K (hK _ _ ⟨Nat.le_refl _, fun k o _ h _ => h⟩ (Below.refl _ _) hI rfl)
  · intro l pre x a' W hl hr hI hA hlen
    subst hA
    exact hbody l pre x W hl hr hI hlen
  · exact rest
  · intro D c pre W hD hS hx hK
    exact absurd hS hx.2
/-- a region that only reads, within a round: walked as outside of one -/
theorem quietW_in_round {n l id : Nat} {P : Program} {Q : Exit → Act → World → Prop} {a : Act} {w : World} {ls : List Oper} (hnd : undeferred ls = true) (hQ : ¬ LetsOut Q) (hm : P.follows .mixedOrders = true) (hB : Region.lexB .any ls.toArray = true)
    (h : wpQuiet P ls.toArray (fun w' => ∃ n, w' = w.drewN n) (fun a' => ∀ w', (∃ n, w' = w.drewN n) → Q .normal a' w') ls a) : (Code.region id ls.toArray true).wpIn (Fence.wide.inRound l) n P Q a w := by
  simp only [Region.lexB, Bool.and_eq_true] at hB
  refine wpIn_region_any hm (any_in_round (undeferred_spec hnd) hQ _ _ _ _ (wpAny_of_quiet (C := fun w' => ∃ n, w' = w.drewN n) (Q := fun a' => ∀ w', (∃ n, w' = w.drewN n) → Q .normal a' w') (fun _ w' hw' h => h w' hw') _ _ _ _ ⟨1, rfl⟩ ?_))
  have := wpAnyQ_lex (P := P) (C := fun w' => ∃ n, w' = w.drewN n) (md := .any) hB.1 ls.toArray.toList 0 (Array.replicate ls.toArray.size false) a (by simp) (by simpa using hB.2) (by simpa using h)
  simpa using this
/-- a range over a function within a round, whose body only goes through -/
theorem range_in {α : Type} {P : Program} {g : Operand} {ps : Array Tmp} {assign body : Code} {Q : Exit → Act → World → Prop} {a : Act} {w : World} {l₀ : Nat} {r₀ : Loop} (hl₀ : w.heap[l₀]? = some (.loop r₀)) {gf : Nat} {lb : Array Value} (hg : a.eval g = .func (.func gf) #[] lb) (eg : ∀ args w, (callFunc gf args).run P w = .ok (.enter gf args) w)
    {encs : α → Array Value} {S Sp : List α → Prop} {N : Nat} (hseq : SeqStopsK Fence.wide 6 P gf lb encs (Below 0) S Sp N w) (hps : ∀ x, (encs x).size = ps.size) (I : List α → World → Prop) (hI : OwnFrom w.heap.size I) (h0 : I [] w) (a₁ : α → Act)
    (hassign : ∀ (l : Nat) (x : α) (W : World) (K : Act → World → Prop), K (a₁ x) W → assign.wpIn (Fence.wide.inRound l) 5 P (Exit.then K (fun _ _ _ => False)) { tmps := (ps.zip (encs x)).foldl (fun t (p, v) => t.setIfInBounds p v) a.tmps, defers := [] } W)
    (hbody : ∀ (l : Nat) (pre : List α) (x : α) (W : World), I pre W → pre.length < N → body.wpIn (Fence.wide.inRound l) 5 P (ownPostG w.heap.size (Below 0) I (fun _ _ _ => False) (pre ++ [x]) W) (a₁ x) W)
    (hdone : ∀ (xs : List α) (W : World), S xs → I xs W → Q .normal a W) :
    (Code.rangeFunc g ps assign body).wpIn (Fence.wide.inRound l₀) 7 P Q a w := by
  refine wpIn_rangeFunc_ownN (F := Fence.wide.inRound l₀) (n := 7) rfl hl₀ (by omega) hg trivial eg hseq belowK_t (belowK_b (Nat.zero_le _)) (Below.refl _ _) hps I (fun _ _ _ => False) hI (fun c pre A B row h _ _ => h) h0
    (fun x a' _ => a' = a₁ x) (fun x a' s A B row h _ _ => h) ?_ ?_ hdone (fun c pre W _ h => h.elim)
  · intro l pre x W K hI hK
    exact hassign l x W K (hK _ _ ⟨Nat.le_refl _, fun k o _ h _ => h⟩ (Below.refl _ _) hI rfl)
  · intro l pre x a' W hl hr hI hA hlen
    subst hA
    exact hbody l pre x W hI hlen
set_option maxHeartbeats 40000000 in
set_option maxRecDepth 100000 in
theorem inside_ {w : World} {t : TB} {n : Nat} {said : List Int} {spoke : List Bool} (h : Th w t n said spoke) (who v : Int) (hc : (Lit.int .i64 who).wf = true) :
    Calls Try.prog 52 #[t.v, .int .i64 who, .int .i64 v] w fun e w' => e = .returned (.bool true) ∧ (∃ said' spoke', Th w' t n said' spoke') ∧ Fr t.has w w' := by
  obtain ⟨hl1, hl2⟩ := h.r.len
  have hlo := h.lo
  have hhi := h.hi
  obtain ⟨k, hk, hpk⟩ := pickN_lt who n (by omega)
  obtain ⟨b1, er1, said1, spoke1, C⟩ := add_c hhi hlo hl1 hl2 (k : Int) v
  have HC := Lib.hid C
  have HP := Lib.hid (fun W => pick_is who n hc (by omega) (by omega) W)
  rw [hpk] at HP
  obtain ⟨T, hT⟩ : ∃ T, textV v = T := ⟨_, rfl⟩
  have HTX := Lib.hid (fun W => text_fr v W)
  have HAS := Lib.hid (fun W g hg => HC.out.s W g hg)
  rw [hT] at HTX HAS
  obtain ⟨N, hN⟩ : ∃ N, w.heap.size = N := ⟨_, rfl⟩
  have HLT := Lib.hid (fun k (hk : t.has k) => show k < N by rw [← hN]; exact h.lt hk)
  have HTH := Lib.hid h
  have HN := Lib.hid hN
  have HNE := Lib.hid h.nes
  unfold TB.v
  obtain ⟨w5, hw5⟩ : ∃ w5, (w.alloc (.cells #[.pointer (some ⟨t.a, 0, none⟩), .pointer (some ⟨t.b, 0, none⟩), .pointer (some ⟨t.r, 0, none⟩)] 44 (0, 0))).alloc (.cells #[.bool false] 4 (0, 0)) = w5 := ⟨_, rfl⟩
  have HW5 := Lib.hid hw5
  clear C hl1 hl2 h hN hw5 hT hpk hc
  refine (callsIn_wide (n := 9)).1 ?_
  refine callsIn_of_wp_marks Try.func52 rfl trivial ?_ rfl
  simp only [Try.ntmps52, List.size_toArray, List.length_cons, List.length_nil, Nat.reduceAdd, Nat.reduceSub, Array.replicate_succ, Array.replicate_zero, List.push_toArray, List.append_toArray, List.nil_append, List.cons_append]
  rw [wpIn_wide]
  go_upto_region 1 with (fail)
  rw [HN.out]
  rw [HW5.out]
  have hFw : Fr No w w5 := by rw [← HW5.out]; exact ((Fr.refl _ _).alloc _).alloc _
  obtain ⟨N1, h1⟩ : ∃ x, N + 1 = x := ⟨_, rfl⟩
  obtain ⟨N2, h2⟩ : ∃ x, N1 + 1 = x := ⟨_, rfl⟩
  obtain ⟨N3, h3⟩ : ∃ x, N2 + 1 = x := ⟨_, rfl⟩
  obtain ⟨N4, h4⟩ : ∃ x, N3 + 1 = x := ⟨_, rfl⟩
  obtain ⟨N5, h5⟩ : ∃ x, N4 + 1 = x := ⟨_, rfl⟩
  have hz : w5.heap.size = N2 := by rw [← HW5.out]; simp [HN.out]; omega
  have hs1 : (w.alloc (.cells #[.pointer (some ⟨t.a, 0, none⟩), .pointer (some ⟨t.b, 0, none⟩), .pointer (some ⟨t.r, 0, none⟩)] 44 (0, 0))).heap.size = N1 := by simp [HN.out]; omega
  have HB0 := Lib.hid (show Bk w5 N 44 [.pointer (some ⟨t.a, 0, none⟩), .pointer (some ⟨t.b, 0, none⟩), .pointer (some ⟨t.r, 0, none⟩)] by rw [← HW5.out, ← HN.out]; exact (Bk.new w 44 [.pointer (some ⟨t.a, 0, none⟩), .pointer (some ⟨t.b, 0, none⟩), .pointer (some ⟨t.r, 0, none⟩)]).alloc _)
  have HB1 := Lib.hid (show Bk w5 N1 4 [.bool false] by rw [← HW5.out, ← hs1]; exact Bk.new _ 4 [.bool false])
  have HF5 := Lib.hid hFw
  have HTH5 := Lib.hid (HTH.out.fr hFw (fun _ _ q => q))
  clear hs1 hFw HW5 HTH
  try rw [h1]
  obtain ⟨x0, x1, x2, xf⟩ := HB0.out.three
  go_wp2_with fail
  refine ((callsIn_wide (n := 9)).1 (VtI.all_in Fence.wide 9 trivial rfl (some ⟨t.a, 0, none⟩) w5)).mono ?_
  rintro e w6 ⟨rfl, hw6⟩
  rw [hz]
  have hF6 : Fr No w5 w6 := by rw [hw6]; exact (Fr.refl _ _).alloc _
  have hz6 : w6.heap.size = N3 := by rw [hw6, ← h3, ← hz]; simp
  obtain ⟨w7, hw7⟩ : ∃ x, w6.alloc (.cells #[.func (.func 65) #[] #[.pointer (some ⟨N2, 0, none⟩)]] 110 (0, 0)) = x := ⟨_, rfl⟩
  have hF7 : Fr No w5 w7 := by rw [← hw7]; exact hF6.alloc _
  have hz7 : w7.heap.size = N4 := by rw [← hw7, ← h4, ← hz6]; simp
  have HB0 := Lib.hid (HB0.out.fr hF7 id)
  have HB1 := Lib.hid (HB1.out.fr hF7 id)
  have HB2 := Lib.hid (show Bk w7 N2 40 [.pointer (some ⟨t.a, 0, none⟩)] by rw [← hw7, hw6, ← hz]; exact (Bk.new w5 40 [.pointer (some ⟨t.a, 0, none⟩)]).alloc _)
  have HB3 := Lib.hid (show Bk w7 N3 110 [.func (.func 65) #[] #[.pointer (some ⟨N2, 0, none⟩)]] by rw [← hw7, ← hz6]; exact Bk.new w6 110 [.func (.func 65) #[] #[.pointer (some ⟨N2, 0, none⟩)]])
  have HF7 := Lib.hid (HF5.out.then_ hF7)
  have HTH7 := Lib.hid (HTH5.out.fr hF7 (fun _ _ q => q))
  have HW7 := Lib.hid hw7
  clear hF6 hF7 hw6 hw7 x0 x1 x2 xf HF5 HTH5
  go_upto_region 2 with (fail)
  try rw [hz6]
  rw [HW7.out]
  have hsq1 := VtI.seq_some 65 #[.pointer (some ⟨N2, 0, none⟩)]
  obtain ⟨w8, hw8⟩ : ∃ x, w7.alloc (.cells #[.int .i64 (n : Int)] 3 (0, 0)) = x := ⟨_, rfl⟩
  have hF8 : Fr No w7 w8 := by rw [← hw8]; exact (Fr.refl _ _).alloc _
  obtain ⟨rcs, rcp, hb, hs, hp⟩ := HTH7.out.r
  obtain ⟨r0, r1, rf⟩ := hb.two
  obtain ⟨x0, x1, x2, xf⟩ := HB0.out.three
  obtain ⟨q0, qf⟩ := HB3.out.one
  have HB0 := Lib.hid (HB0.out.fr hF8 id)
  have HB1 := Lib.hid (HB1.out.fr hF8 id)
  have HB2 := Lib.hid (HB2.out.fr hF8 id)
  have HB3 := Lib.hid (HB3.out.fr hF8 id)
  have HB4 := Lib.hid (show Bk w8 N4 3 [.int .i64 (n : Int)] by rw [← hw8, ← hz7]; exact Bk.new w7 3 [.int .i64 (n : Int)])
  have hz8 : w8.heap.size = N5 := by rw [← hw8, ← h5, ← hz7]; simp
  have HF8 := Lib.hid (HF7.out.then_ hF8)
  have HTH8 := Lib.hid (HTH7.out.fr hF8 (fun _ _ q => q))
  have HW8 := Lib.hid hw8
  clear hF8 hw8 hb hs hp HF7 HTH7 HW7
  go_upto_region 5 with (fail)
  try rw [hz7]
  rw [HW8.out]
  clear hsq1 r0 r1 rf x0 x1 x2 xf q0 qf HW8
  obtain ⟨y4, yf4⟩ := HB4.out.one
  go_wp2_with fail
  refine (HP.out w8).mono ?_
  rintro e w' ⟨rfl, rfl⟩
  clear y4 yf4
  obtain ⟨x0, x1, x2, xf⟩ := HB0.out.three
  go_wp2_with fail
  refine (HC.out.i w' t.a HTH8.out.a).mono ?_
  rintro e w9 ⟨rfl, hA, hF9⟩
  have a1 := HLT.out t.a (.inl rfl)
  have a2 := HLT.out t.b (.inr (.inl rfl))
  have a3 := HLT.out t.r (.inr (.inr (.inl rfl)))
  have HA := Lib.hid hA
  have HF9 := Lib.hid hF9
  have HB09 := Lib.hid (HB0.out.fr hF9 (by omega))
  have HTB9 := Lib.hid (HTH8.out.b.fr hF9 (fun e => HNE.out.1.1 e.symm))
  clear hA hF9 x0 x1 x2 xf
  obtain ⟨x0, x1, x2, xf⟩ := HB09.out.three
  go_upto_region 7 with (fail)
  refine wp_meet (fun W => VtS.Tl W t.b n (s7 textV ByteArray.empty said1 spoke1) ∧ Fr (fun j => j = t.b) w9 W) (fun a => (((((a.put (some 39) (.pointer (some ⟨N, 1, none⟩))).put (some 40) (.pointer (some ⟨t.b, 0, none⟩))).put (some 41) (.int .i64 (k : Int))).put (some 42) (.int .i64 v)).put (some 43) (.string T)).put (some 44) (.tuple #[.bool b1, .int .i64 er1])) ?hh ?hk
  case hh =>
    go_region_law (first | (go_simp; go_at_call 40; refine (HTX.out _).mono ?_; rintro e wt ⟨rfl, hFt⟩; have hFt : Fr No w9 wt := ((Fr.refl No _).drew).then_ hFt; obtain ⟨y0, y1, y2, yf⟩ := (HB09.out.fr hFt id).three) | (go_simp; go_at_call 39; refine (HAS.out wt t.b (HTB9.out.fr hFt id)).mono ?_; rintro e w10 ⟨rfl, hB10, hF10⟩))
    all_goals exact And.intro rfl (And.intro hB10 ((hFt.mono (fun _ _ q => q.elim)).trans hF10 (fun _ _ q => q)))
  case hk =>
    intro w10 hM
    obtain ⟨hB10, hF10⟩ := hM
    have HB10 := Lib.hid hB10
    have HF10 := Lib.hid hF10
    have HB0X := Lib.hid (HB09.out.fr hF10 (by omega))
    have HR10 := Lib.hid ((HTH8.out.r.fr HF9.out (fun e => HNE.out.1.2.1 e.symm) (fun e => HNE.out.1.2.2.1 e.symm) (fun e => HNE.out.1.2.2.2 e.symm)).fr hF10 (fun e => HNE.out.2.1 e.symm) (fun e => HNE.out.2.2.1 e.symm) (fun e => HNE.out.2.2.2 e.symm))
    clear hB10 hF10
    clear x0 x1 x2 xf
    obtain ⟨x0, x1, x2, xf⟩ := HB0X.out.three
    go_wp2_with fail
    refine (HC.out.r w10 t.r t.s t.p HR10.out).mono ?_
    rintro e w11 ⟨rfl, hR11, hF11⟩
    have a4 := HLT.out t.s (.inr (.inr (.inr (.inl rfl))))
    have a5 := HLT.out t.p (.inr (.inr (.inr (.inr rfl))))
    have HX := Lib.hid (HTH8.out.three HA.out HF9.out (Fr.refl No _) HB10.out HF10.out hR11 hF11)
    have HB0Y := Lib.hid (HB0X.out.fr hF11 (by omega))
    clear hR11 hF11 x0 x1 x2 xf
    obtain ⟨x0, x1, x2, xf⟩ := HB0Y.out.three
    go_wp2_with fail
    refine (rClone_ HX.out.1.r hlo hhi).mono ?_
    rintro e w12 ⟨r2, s2, p2, rfl, hR2, hr2, hs2, hp2, hF12⟩
    obtain ⟨NW, hNW⟩ : ∃ x, w12.heap.size = x := ⟨_, rfl⟩
    obtain ⟨NA, hNA⟩ : ∃ x, NW + 1 = x := ⟨_, rfl⟩
    obtain ⟨NT, hNT⟩ : ∃ x, NA + 1 = x := ⟨_, rfl⟩
    obtain ⟨W0, hW0⟩ : ∃ x, ((w12.alloc (.cells #[.pointer (some ⟨r2, 0, none⟩)] 42 (0, 0))).alloc (.cells #[.int .i64 0] 3 (0, 0))).alloc (.cells #[.int .i64 0] 3 (0, 0)) = x := ⟨_, rfl⟩
    have hF0 : Fr No w12 W0 := by rw [← hW0]; exact (((Fr.refl _ _).alloc _).alloc _).alloc _
    have hz0 : W0.heap.size = NT + 1 := by rw [← hW0]; simp [hNW]; omega
    have hz8' : N5 ≤ w12.heap.size := by have := HX.out.2.size; have := hF12.size; omega
    have hzz : ∀ o1 o2 o3 : Obj, (w12.alloc o1).heap.size = NA ∧ ((w12.alloc o1).alloc o2).heap.size = NT := fun o1 o2 o3 => by simp [hNW]; omega
    have HBW := Lib.hid (show Bk W0 NW 42 [.pointer (some ⟨r2, 0, none⟩)] by rw [← hW0, ← hNW]; exact ((Bk.new w12 42 [.pointer (some ⟨r2, 0, none⟩)]).alloc _).alloc _)
    have HBA := Lib.hid (show Bk W0 NA 3 [.int .i64 ((0 : Nat) : Int)] by rw [← hW0, ← (hzz (.cells #[.pointer (some ⟨r2, 0, none⟩)] 42 (0, 0)) (.cells #[.int .i64 0] 3 (0, 0)) (.cells #[.int .i64 0] 3 (0, 0))).1]; exact (Bk.new _ 3 [.int .i64 0]).alloc _)
    have HBT := Lib.hid (show Bk W0 NT 3 [.int .i64 ((0 : Nat) : Int)] by rw [← hW0, ← (hzz (.cells #[.pointer (some ⟨r2, 0, none⟩)] 42 (0, 0)) (.cells #[.int .i64 0] 3 (0, 0)) (.cells #[.int .i64 0] 3 (0, 0))).2]; exact Bk.new _ 3 [.int .i64 0])
    have hF80 : Fr t.has w' W0 := (HX.out.2.trans hF12 (fun _ _ q => q.elim)).trans hF0 (fun _ _ q => q.elim)
    have hnt : ∀ j, N ≤ j → ¬ t.has j := fun j hj q => by have := HLT.out j q; omega
    have HB0 := Lib.hid (HB0.out.fr hF80 (hnt _ (by omega)))
    have HB1 := Lib.hid (HB1.out.fr hF80 (hnt _ (by omega)))
    have HB2 := Lib.hid (HB2.out.fr hF80 (hnt _ (by omega)))
    have HB3 := Lib.hid (HB3.out.fr hF80 (hnt _ (by omega)))
    have HB4 := Lib.hid (HB4.out.fr hF80 (hnt _ (by omega)))
    have HTH0 := Lib.hid ((HX.out.1.fr hF12 (fun _ _ q => q)).fr hF0 (fun _ _ q => q))
    have HR20 := Lib.hid (hR2.fr hF0 id id id)
    have h11 : N5 ≤ w11.heap.size := by have := HX.out.2.size; omega
    have HR2L := Lib.hid (show N5 ≤ r2 ∧ N5 ≤ s2 ∧ N5 ≤ p2 ∧ r2 < NW ∧ s2 < NW ∧ p2 < NW from ⟨by omega, by omega, by omega, by rw [← hNW]; exact hR2.bts.1.lt, by rw [← hNW]; exact hR2.bts.2.1.lt, by rw [← hNW]; exact hR2.bts.2.2.lt⟩)
    have HFW := Lib.hid (show Fr t.has w W0 from (HF8.out.mono (fun _ _ q => q.elim)).trans hF80 (fun _ _ q => q))
    have HW0 := Lib.hid hW0
    have HNW := Lib.hid hNW
    have hN5 : N5 ≤ NW := by omega
    clear hzz hF0 hW0 hNW hF80 hR2 hF12 hr2 hs2 hp2 HR10 HB10 HF10 HA HF9 HX
    go_upto_region 12 with (fail)
    rw [HNW.out]
    try rw [hNA]
    try rw [hNT]
    rw [HW0.out]
    clear x0 x1 x2 xf
    obtain ⟨l1, l2⟩ := HTH0.out.r.len
    obtain ⟨sI, hsI⟩ : ∃ s, s7 id 0 said1 spoke1 = s := ⟨_, rfl⟩
    have HTL := Lib.hid (show Tells n said1 spoke1 sI by rw [← hsI]; exact tells l1 l2 hhi)
    have hTI := HTH0.out.a
    rw [hsI] at hTI
    have HTI := Lib.hid hTI
    clear hTI hsI
    obtain ⟨q0, qf⟩ := HB3.out.one
    go_wp2
    refine range_own (gf := 65) (lb := #[.pointer (some ⟨N2, 0, none⟩)]) rfl (enters_of Try.func65 (by kernel_rfl) rfl)
      (VtI.tally_stops Fence.wide 8 trivial rfl (by omega) N2 t.a 0 n sI W0 HTI.out (by omega) (by omega) (HB2.out.cell 0)) (fun _ => rfl)
      (fun pre W => (∃ k : Nat, k ≤ n ∧ pre = VtI.saidT (sI.take k) 0 ∧ Bk W NA 3 [.int .i64 (k : Int)]) ∧ Bk W NT 3 [.int .i64 (pre.length : Int)] ∧ (∃ sd sp, Th W t n sd sp) ∧ Fr (fun j => t.has j ∨ j = NA ∨ j = NT) W0 W)
      ?hI ⟨⟨0, Nat.zero_le _, rfl, HBA.out⟩, HBT.out, ⟨_, _, HTH0.out⟩, Fr.refl _ _⟩
      ?a₁ ?assign ?body ?rest
    case hI =>
      rintro pre A B row ⟨⟨k, hk, hp, h3⟩, h4, ⟨sd, sp, hT⟩, hF⟩ hg hr
      have hr' := fun r e => (hr r e).2
      exact ⟨⟨k, hk, hp, bk_kept h3 hg hr'⟩, bk_kept h4 hg hr', ⟨sd, sp, hT.grown hg hr'⟩, Fr.grown_on hF hg (fun r e => (hr r e).1)⟩
    case assign =>
      intro l x W K hK
      gi_wp2
      exact hK
    case body =>
      rintro l pre x W hl hrec ⟨⟨k, hk, hp, h3⟩, h4, ⟨sd, sp, hT⟩, hF⟩ hlen
      have hn := HN.out
      have hne : ∀ j, N ≤ j → j < NA → ¬ (t.has j ∨ j = NA ∨ j = NT) := fun j h1 h2 q => by
        rcases q with q | q | q
        · exact hnt j h1 q
        · omega
        · omega
      have hrl := HR2L.out
      have HB0W := Lib.hid (HB0.out.fr hF (hne _ (by omega) (by omega)))
      have HB1W := Lib.hid (HB1.out.fr hF (hne _ (by omega) (by omega)))
      have HB2W := Lib.hid (HB2.out.fr hF (hne _ (by omega) (by omega)))
      have HB3W := Lib.hid (HB3.out.fr hF (hne _ (by omega) (by omega)))
      have HB4W := Lib.hid (HB4.out.fr hF (hne _ (by omega) (by omega)))
      have HBWW := Lib.hid (HBW.out.fr hF (hne _ (by omega) (by omega)))
      have HR2W := Lib.hid (HR20.out.fr hF (hne _ (by omega) (by omega)) (hne _ (by omega) (by omega)) (hne _ (by omega) (by omega)))
      have HBAW := Lib.hid h3
      have HBTW := Lib.hid h4
      have HP := Lib.hid hp
      have HTW := Lib.hid hT
      have HFRW := Lib.hid hF
      have HREC := Lib.hid hrec
      clear h3 h4 hp hT hF q0 qf hrec
      gi_wp2
      gi_loopw [] (fun wr => ∃ k' : Nat, k' ≤ n ∧ Hid (VtI.saidT (sI.take k') 0 = pre) ∧ Hid (Bk wr NA 3 [.int .i64 (k' : Int)]) ∧ Hid (Fr (fun j => j = NA) W wr)) (fun wr => n - cellNat wr NA)
      case atStart => exact ⟨k, hk, HP.out.symm, HBAW.out, Fr.refl _ _⟩
      case round =>
        obtain ⟨k', hk', HP', HBA', HFr⟩ := hrel
        have HB0r := Lib.hid (HB0W.out.fr HFr.out (by omega))
        have HB1r := Lib.hid (HB1W.out.fr HFr.out (by omega))
        have HB4r := Lib.hid (HB4W.out.fr HFr.out (by omega))
        have HBWr := Lib.hid (HBWW.out.fr HFr.out (by omega))
        have HBTr := Lib.hid (HBTW.out.fr HFr.out (by omega))
        have HR2r := Lib.hid (HR2W.out.fr HFr.out (by omega) (by omega) (by omega))
        obtain ⟨cs, cp, hb, hs, hp⟩ := HR2r.out
        obtain ⟨r0, r1, rf⟩ := hb.two
        obtain ⟨g0, gf⟩ := HBWr.out.one
        obtain ⟨n0, nf⟩ := HB4r.out.one
        obtain ⟨c3, cf⟩ := HBA'.out.one
        have hbt : ∀ j, (j = N1 ∨ j = NA) → j < W.heap.size → ∃ t, BT W j t := fun j hj _ => by
          rcases hj with rfl | rfl
          · exact ⟨_, HB1W.out.bt⟩
          · exact ⟨_, HBAW.out.bt⟩
        have HRB := Lib.hid hb
        by_cases hlt : k' < n
        · obtain ⟨lw1, lw2⟩ := HR2r.out.len
          obtain ⟨b, hb'⟩ : ∃ b, spoke1[k']? = some b := ⟨_, List.getElem?_eq_getElem (by omega)⟩
          obtain ⟨v', hv'⟩ : ∃ v', said1[k']? = some v' := ⟨_, List.getElem?_eq_getElem (by omega)⟩
          clear lw1 lw2
          have HcP := Lib.hid (fun W2 (hW2 : Fr No wr W2) => (row_cell (hp.fr hW2 (fun _ _ q => q)) (k := k') (v := .bool b) (by rw [bb, List.getElem?_map, hb']; rfl)).1)
          have HcS := Lib.hid (fun W2 (hW2 : Fr No wr W2) => (row_cell (hs.fr hW2 (fun _ _ q => q)) (k := k') (v := .int .i64 v') (by rw [iv, List.getElem?_map, hv']; rfl)).1)
          have cP := HcP.out wr (Fr.refl _ _)
          have hki : (k' : Int) < (n : Int) := by omega
          have hk0 : (0 : Int) ≤ (k' : Int) := by omega
          have d1 : decide ((k' : Int) < (n : Int)) = true := decide_eq_true hki
          have d1' : decide (k' < n) = true := decide_eq_true hlt
          have d2 : decide ((n : Int) ≤ (k' : Int)) = false := decide_eq_false (by omega)
          have d2' : decide (n ≤ k') = false := decide_eq_false (by omega)
          have HPK := Lib.hid (HTL.out.next k' b v' hlt hb' hv')
          have HSV := Lib.hid (And.intro hb' hv')
          have hw1 : IntKind.i64.wrap ((k' : Int) + 1) = (k' : Int) + 1 := IntWalk.i64_in _ (by omega)
          clear hb hs hp hb' hv'
          cases b with
          | false =>
            gi_wp2
            refine quiet_in_round rfl (by kernel_rfl) (by kernel_rfl) ?_
            repeat (gi_big_quiet_step (fail))
            refine wpQuietIn_nil ?_
            intro _ hw'
            obtain ⟨nq, hw''⟩ := hw'
            subst hw''
            obtain ⟨wnq, hwnq⟩ : ∃ x, (wr).drewN nq = x := ⟨_, rfl⟩
            rw [hwnq]
            have hFnq : Fr No wr wnq := by rw [← hwnq]; exact (Fr.refl _ _).drewN _
            clear hwnq
            have b3 := HBA'.out.fr hFnq id
            obtain ⟨d3, df⟩ := b3.one
            gi_wp2
            go_roundw
            case rel => exact ⟨k' + 1, by omega, by show VtI.saidT _ 0 = pre; rw [HPK.out, HP'.out]; simp, b3.set 0 _, (HFr.out.trans hFnq (fun _ _ q => q.elim)).set (p := ⟨NA, 0, none⟩) (.inl rfl) _⟩
            case measure =>
              rw [cellNat_is (show Bk (wnq.setCell ⟨NA, 0, none⟩ (.int .i64 ((k' : Int) + 1))) NA 3 [.int .i64 ((k' : Int) + 1)] from b3.set 0 _), cellNat_is HBA'.out]
              omega
          | true =>
            have HNX := Lib.hid (fun (y : Int × Int) (hy : y ≠ ((k' : Int), v')) => HTL.out.no hlt HSV.out.1 HSV.out.2 y hy)
            rw [HP'.out] at HNX
            obtain ⟨xi, xv⟩ := x
            dsimp only
            gi_wp2
            refine quiet_in_round rfl (by kernel_rfl) (by kernel_rfl) ?_
            repeat (gi_big_quiet_step (fail))
            refine wpQuietIn_nil ?_
            intro _ hw'
            obtain ⟨nq, hw''⟩ := hw'
            subst hw''
            obtain ⟨wnq, hwnq⟩ : ∃ x, (wr).drewN nq = x := ⟨_, rfl⟩
            rw [hwnq]
            have hFnq : Fr No wr wnq := by rw [← hwnq]; exact (Fr.refl _ _).drewN _
            clear hwnq
            clear r0 r1 rf g0 gf n0 nf c3 cf cP
            obtain ⟨y0, yf⟩ := (HBWr.out.fr hFnq id).one
            obtain ⟨m0, mf⟩ := (HB4r.out.fr hFnq id).one
            obtain ⟨d3, df⟩ := (HBA'.out.fr hFnq id).one
            obtain ⟨s0, s1, sf⟩ := (HRB.out.fr hFnq id).two
            have cS := HcS.out wnq hFnq
            by_cases hx : (xi, xv) = ((k' : Int), v')
            · injection hx with hx1 hx2
              subst hx1 hx2
              gi_wp2
              refine quiet_in_round rfl (by kernel_rfl) (by kernel_rfl) ?_
              repeat (gi_big_quiet_step (fail))
              refine wpQuietIn_nil ?_
              intro _ hw'
              obtain ⟨nq2, hw''⟩ := hw'
              subst hw''
              obtain ⟨wnq2, hwnq2⟩ : ∃ x, (wnq).drewN nq2 = x := ⟨_, rfl⟩
              rw [hwnq2]
              have hFnq2 : Fr No wnq wnq2 := by rw [← hwnq2]; exact (Fr.refl _ _).drewN _
              clear hwnq2
              have hFq : Fr No wr wnq2 := hFnq.then_ hFnq2
              clear y0 yf m0 mf d3 df s0 s1 sf cS
              obtain ⟨l3, l4⟩ := HTW.out.r.len
              obtain ⟨b2, sp2, DC⟩ := drop_c hhi hlo l3 l4 (k' : Int)
              have HD := Lib.hid DC
              clear l3 l4 DC
              have hAT : NT ≠ NA := by omega
              have hTA : NA ≠ NT := by omega
              have hwl : IntKind.i64.wrap ((pre.length : Int) + 1) = (pre.length : Int) + 1 := IntWalk.i64_in _ (by omega)
              obtain ⟨wz, hwz⟩ : ∃ wz, wnq2.setCell ⟨NA, 0, none⟩ (.int .i64 ((k' : Int) + 1)) = wz := ⟨_, rfl⟩
              obtain ⟨wy, hwy⟩ : ∃ wy, wz.setCell ⟨NT, 0, none⟩ (.int .i64 ((pre.length : Int) + 1)) = wy := ⟨_, rfl⟩
              have hFy : Fr (fun j => j = NA ∨ j = NT) W wy := by
                rw [← hwy, ← hwz]
                exact (((HFr.out.mono (fun _ _ e => .inl e) : Fr (fun j => j = NA ∨ j = NT) W wr).trans hFq (fun _ _ q => q.elim)).set (p := ⟨NA, 0, none⟩) (.inl (.inl rfl)) _).set (p := ⟨NT, 0, none⟩) (.inl (.inr rfl)) _
              have b3 := HBA'.out.fr hFq id
              have b4 := HBTr.out.fr hFq id
              have b4z : Bk wz NT 3 [.int .i64 (pre.length : Int)] := by rw [← hwz]; exact b4.far (p := ⟨NA, 0, none⟩) hAT _
              have HBAy := Lib.hid (show Bk wy NA 3 [.int .i64 (((k' + 1 : Nat) : Int))] by rw [← hwy, ← hwz]; exact (b3.set 0 _).far (p := ⟨NT, 0, none⟩) hTA _)
              have HBTy := Lib.hid (show Bk wy NT 3 [.int .i64 (((pre.length + 1 : Nat) : Int))] by rw [← hwy]; exact b4z.set 0 _)
              have HB0y := Lib.hid (HB0W.out.fr hFy (by omega))
              have HTy := Lib.hid (HTW.out.fr hFy (fun j hj e => by have := HLT.out j hj; omega))
              have HFy := Lib.hid hFy
              obtain ⟨d3, df⟩ := b3.one
              obtain ⟨q4, q4f⟩ := b4z.one
              obtain ⟨x0, x1, x2, xf⟩ := HB0y.out.three
              rw [← hwz] at q4 q4f
              rw [← hwy, ← hwz] at x0 x1 x2 xf
              have HWZ := Lib.hid hwz
              have HWY := Lib.hid hwy
              clear b3 b4 b4z hwz hwy hFy
              gi_wp2_with fail
              rw [HWZ.out, HWY.out]
              clear d3 df q4 q4f x0 x1 x2 xf
              refine ⟨trivial, CallsIn.inRound l (callsIn_wide.2 ((HD.out.i wy t.a HTy.out.a).mono ?_))⟩
              rintro e u1 ⟨rfl, hA1, hG1⟩
              have HA1 := Lib.hid hA1
              have HG1 := Lib.hid hG1
              have HB01 := Lib.hid (HB0y.out.fr hG1 (by omega))
              have HTB1 := Lib.hid (HTy.out.b.fr hG1 (fun e => HNE.out.1.1 e.symm))
              clear hA1 hG1
              obtain ⟨x0, x1, x2, xf⟩ := HB01.out.three
              gi_wp2_with fail
              refine ⟨trivial, CallsIn.inRound l (callsIn_wide.2 ((HD.out.s u1 t.b HTB1.out).mono ?_))⟩
              rintro e u2 ⟨rfl, hA2, hG2⟩
              have HA2 := Lib.hid hA2
              have HG2 := Lib.hid hG2
              have HB02 := Lib.hid (HB01.out.fr hG2 (by omega))
              have HR2 := Lib.hid ((HTy.out.r.fr HG1.out (fun e => HNE.out.1.2.1 e.symm) (fun e => HNE.out.1.2.2.1 e.symm) (fun e => HNE.out.1.2.2.2 e.symm)).fr hG2 (fun e => HNE.out.2.1 e.symm) (fun e => HNE.out.2.2.1 e.symm) (fun e => HNE.out.2.2.2 e.symm))
              clear hA2 hG2 x0 x1 x2 xf
              obtain ⟨x0, x1, x2, xf⟩ := HB02.out.three
              gi_wp2_with fail
              refine ⟨trivial, CallsIn.inRound l (callsIn_wide.2 ((HD.out.r u2 t.r t.s t.p HR2.out).mono ?_))⟩
              rintro e u3 ⟨rfl, hR3, hG3⟩
              have HX3 := Lib.hid (HTy.out.three HA1.out HG1.out (Fr.refl No _) HA2.out HG2.out hR3 (hG3.mono (fun _ _ q => .inr q)))
              have hF3 : Fr (fun j => t.has j ∨ j = NA ∨ j = NT) W u3 := (HFy.out.mono (fun _ _ q => .inr q) : Fr (fun j => t.has j ∨ j = NA ∨ j = NT) W wy).trans HX3.out.2 (fun _ _ q => .inl q)
              have HB03 := Lib.hid (HB0W.out.fr hF3 (hne _ (by omega) (by omega)))
              have HB43 := Lib.hid (HB4W.out.fr hF3 (hne _ (by omega) (by omega)))
              have HBT3 := Lib.hid (HBTy.out.fr HX3.out.2 (hnt _ (by omega)))
              have HF3 := Lib.hid hF3
              clear hR3 hG3 hF3 x0 x1 x2 xf
              obtain ⟨Z, hZ⟩ : ∃ Z : Int, ((k' : Int) + 2) % (n : Int) = Z := ⟨_, rfl⟩
              have z1 : IntKind.i64.wrap ((k' : Int) + 2) = (k' : Int) + 2 := IntWalk.i64_in _ (by omega)
              have z2 : ((k' : Int) + 2).tmod (n : Int) = Z := by rw [Int.tmod_eq_emod_of_nonneg (by omega), hZ]
              have z0 : 0 ≤ Z ∧ Z < n := ⟨by rw [← hZ]; exact Int.emod_nonneg _ (by omega), by rw [← hZ]; exact Int.emod_lt_of_pos _ (by omega)⟩
              have z3 : IntKind.i64.wrap Z = Z := IntWalk.i64_in _ (by omega)
              have z4 : ¬ (n : Int) = 0 := by omega
              have z6 : ¬ n = 0 := by omega
              have z7 : IntKind.i64.wrap (((k' : Int) + 2).tmod (n : Int)) = Z := by rw [z2, IntWalk.i64_in _ (by omega)]
              have z5 : ((n : Int) == 0) = false := by rw [beq_eq_false_iff_ne]; exact z4
              clear hZ z0
              obtain ⟨l3, l4⟩ := HX3.out.1.r.len
              obtain ⟨b4, er4, sd4, sp4, AC⟩ := add_c hhi hlo l3 l4 Z (((pre.length + 1 : Nat) : Int))
              have HAC := Lib.hid AC
              clear l3 l4 AC
              obtain ⟨P1, hP1⟩ : ∃ P1 : Int, ((pre.length + 1 : Nat) : Int) = P1 := ⟨_, rfl⟩
              rw [hP1] at HBT3 HAC
              have HP1 := Lib.hid hP1
              clear hP1
              obtain ⟨x0, x1, x2, xf⟩ := HB03.out.three
              obtain ⟨m0, mf⟩ := HB43.out.one
              obtain ⟨q0, qf⟩ := HBT3.out.one
              gi_wp2
              refine tail_in_round 7 rfl (by rintro ⟨_, _, q⟩; exact q) (by kernel_rfl) (by kernel_rfl) ?_
              simp only [List.take_succ_cons, List.take_zero, List.drop_succ_cons, List.drop_zero]
              repeat still_step
              try refine wpStill_nil ?_
              go_wp2_with fail
              refine (HAC.out.i _ t.a (HX3.out.1.a.fr (show Fr No u3 u3.drew from (Fr.refl _ _).drew) id)).mono ?_
              rintro e u4 ⟨rfl, hA4, hG4⟩
              have hG4 : Fr (fun j => j = t.a) u3 u4 := ((Fr.refl _ _).drew).then_ hG4
              have HA4 := Lib.hid hA4
              have HG4 := Lib.hid hG4
              have HB04 := Lib.hid (HB03.out.fr hG4 (by omega))
              have HB44 := Lib.hid (HB43.out.fr hG4 (by omega))
              have HBT4 := Lib.hid (HBT3.out.fr hG4 (by omega))
              have HTB4 := Lib.hid (HX3.out.1.b.fr hG4 (fun e => HNE.out.1.1 e.symm))
              clear hA4 hG4 x0 x1 x2 xf m0 mf q0 qf
              obtain ⟨x0, x1, x2, xf⟩ := HB04.out.three
              obtain ⟨m0, mf⟩ := HB44.out.one
              obtain ⟨q0, qf⟩ := HBT4.out.one
              go_wp2
              gi_wp2
              have HSd := Lib.hid (show Fr (fun j => j = t.b) u4 { u4 with drawn := u4.drawn + 1 } from (Fr.refl _ _).drew)
              clear x0 x1 x2 xf m0 mf q0 qf
              refine held_in_round (fun W => Fr (fun j => j = t.b) u4 W) (by rfl) ?_ (by kernel_rfl) ?_
              · rintro ⟨_, _, q⟩
                exact q
              refine wpAnyH_take (i := 0) (v := .pointer (some ⟨N, 1, none⟩)) rfl (by kernel_rfl) (by kernel_rfl) (by kernel_rfl) (fun _ _ _ h => h) (Or.inl ⟨by rfl, fun W hW => ?_⟩) HSd.out ?_
              · obtain ⟨x0, x1, x2, xf⟩ := (HB04.out.fr hW (by omega)).three
                obtain ⟨m0, mf⟩ := (HB44.out.fr hW (by omega)).one
                obtain ⟨q0, qf⟩ := (HBT4.out.fr hW (by omega)).one
                go_simp
              refine wpAnyH_take (i := 1) (v := .pointer (some ⟨t.b, 0, none⟩)) rfl (by kernel_rfl) (by kernel_rfl) (by kernel_rfl) (fun _ _ _ h => h) (Or.inl ⟨by rfl, fun W hW => ?_⟩) HSd.out ?_
              · obtain ⟨x0, x1, x2, xf⟩ := (HB04.out.fr hW (by omega)).three
                obtain ⟨m0, mf⟩ := (HB44.out.fr hW (by omega)).one
                obtain ⟨q0, qf⟩ := (HBT4.out.fr hW (by omega)).one
                go_simp
              refine wpAnyH_take (i := 2) (v := .int .i64 (k' : Int)) rfl (by kernel_rfl) (by kernel_rfl) (by kernel_rfl) (fun _ _ _ h => h) (Or.inl ⟨by rfl, fun W hW => ?_⟩) HSd.out ?_
              · obtain ⟨x0, x1, x2, xf⟩ := (HB04.out.fr hW (by omega)).three
                obtain ⟨m0, mf⟩ := (HB44.out.fr hW (by omega)).one
                obtain ⟨q0, qf⟩ := (HBT4.out.fr hW (by omega)).one
                go_simp
              refine wpAnyH_take (i := 3) (v := .int .i64 ((k' : Int) + 2)) rfl (by kernel_rfl) (by kernel_rfl) (by kernel_rfl) (fun _ _ _ h => h) (Or.inl ⟨by rfl, fun W hW => ?_⟩) HSd.out ?_
              · obtain ⟨x0, x1, x2, xf⟩ := (HB04.out.fr hW (by omega)).three
                obtain ⟨m0, mf⟩ := (HB44.out.fr hW (by omega)).one
                obtain ⟨q0, qf⟩ := (HBT4.out.fr hW (by omega)).one
                go_simp
              refine wpAnyH_take (i := 4) (v := .int .i64 (n : Int)) rfl (by kernel_rfl) (by kernel_rfl) (by kernel_rfl) (fun _ _ _ h => h) (Or.inl ⟨by rfl, fun W hW => ?_⟩) HSd.out ?_
              · obtain ⟨x0, x1, x2, xf⟩ := (HB04.out.fr hW (by omega)).three
                obtain ⟨m0, mf⟩ := (HB44.out.fr hW (by omega)).one
                obtain ⟨q0, qf⟩ := (HBT4.out.fr hW (by omega)).one
                go_simp
              refine wpAnyH_take (i := 5) (v := .int .i64 Z) rfl (by kernel_rfl) (by kernel_rfl) (by kernel_rfl) (fun _ _ _ h => h) (Or.inl ⟨by rfl, fun W hW => ?_⟩) HSd.out ?_
              · obtain ⟨x0, x1, x2, xf⟩ := (HB04.out.fr hW (by omega)).three
                obtain ⟨m0, mf⟩ := (HB44.out.fr hW (by omega)).one
                obtain ⟨q0, qf⟩ := (HBT4.out.fr hW (by omega)).one
                go_simp
              refine wpAnyH_take (i := 6) (v := .int .i64 P1) rfl (by kernel_rfl) (by kernel_rfl) (by kernel_rfl) (fun _ _ _ h => h) (Or.inl ⟨by rfl, fun W hW => ?_⟩) HSd.out ?_
              · obtain ⟨x0, x1, x2, xf⟩ := (HB04.out.fr hW (by omega)).three
                obtain ⟨m0, mf⟩ := (HB44.out.fr hW (by omega)).one
                obtain ⟨q0, qf⟩ := (HBT4.out.fr hW (by omega)).one
                go_simp
              obtain ⟨T1, hT1⟩ : ∃ T, textV P1 = T := ⟨_, rfl⟩
              have HTX4 := Lib.hid (fun W => text_fr P1 W)
              have HAS4 := Lib.hid (fun W g hg => HAC.out.s W g hg)
              rw [hT1] at HTX4 HAS4
              clear hT1
              refine wpAnyH_ready (rs := [7]) (by kernel_rfl) (by simp) ?_
              refine AllReadyH.cons rfl (fun K hK => ?_) AllReadyH.nil
              rw [if_pos (by rfl)]
              go_simp
              go_at_call 40
              refine (HTX4.out _).mono ?_
              rintro e wt ⟨rfl, hFt⟩
              have hFt : Fr No u4 wt := ((Fr.refl No u4).drew).then_ hFt
              refine hK.out _ _ (hFt.mono (fun _ _ q => q.elim)) (fun hHeld => ?_)
              clear hK K
              refine wpAnyH_ready (rs := [8]) (by kernel_rfl) (by simp) ?_
              refine AllReadyH.cons rfl (fun K hK => ?_) AllReadyH.nil
              rw [if_pos (by rfl)]
              go_simp
              go_at_call 39
              refine (HAS4.out wt t.b (HTB4.out.fr hFt id)).mono ?_
              rintro e u5 ⟨rfl, hA5, hG5⟩
              have hG5 : Fr (fun j => j = t.b) u4 u5 := (hFt.mono (fun _ _ q => q.elim) : Fr (fun j => j = t.b) u4 wt).trans hG5 (fun _ _ q => q)
              refine hK.out _ _ hG5 (fun _ => ?_)
              clear hK K hHeld
              refine wpAnyH_done (by kernel_rfl) ?_ _
              have HA5 := Lib.hid hA5
              have HG5 := Lib.hid hG5
              have HB05 := Lib.hid (HB04.out.fr hG5 (by omega))
              have HB45 := Lib.hid (HB44.out.fr hG5 (by omega))
              have HBT5 := Lib.hid (HBT4.out.fr hG5 (by omega))
              have HR5 := Lib.hid ((HX3.out.1.r.fr HG4.out (fun e => HNE.out.1.2.1 e.symm) (fun e => HNE.out.1.2.2.1 e.symm) (fun e => HNE.out.1.2.2.2 e.symm)).fr hG5 (fun e => HNE.out.2.1 e.symm) (fun e => HNE.out.2.2.1 e.symm) (fun e => HNE.out.2.2.2 e.symm))
              clear hA5 hG5 hFt HSd
              obtain ⟨x0, x1, x2, xf⟩ := HB05.out.three
              obtain ⟨m0, mf⟩ := HB45.out.one
              obtain ⟨q0, qf⟩ := HBT5.out.one
              gi_wp2
              refine tail_in_round 7 rfl (by rintro ⟨_, _, q⟩; exact q) (by kernel_rfl) (by kernel_rfl) ?_
              simp only [List.take_succ_cons, List.take_zero, List.drop_succ_cons, List.drop_zero]
              repeat still_step
              try refine wpStill_nil ?_
              go_wp2_with fail
              refine (HAC.out.r _ t.r t.s t.p (HR5.out.fr (show Fr No u5 u5.drew from (Fr.refl _ _).drew) id id id)).mono ?_
              rintro e u6 ⟨rfl, hR6, hG6⟩
              have hG6 : Fr (fun j => j = t.s ∨ j = t.p) u5 u6 := ((Fr.refl _ _).drew).then_ hG6
              have HX6 := Lib.hid (HX3.out.1.three HA4.out HG4.out (Fr.refl No _) HA5.out HG5.out hR6 hG6)
              have hF6 : Fr (fun j => t.has j ∨ j = NA ∨ j = NT) W u6 := HF3.out.trans HX6.out.2 (fun _ _ q => .inl q)
              have HBT6 := Lib.hid (HBTy.out.fr (HX3.out.2.then_ HX6.out.2) (hnt _ (by omega)))
              have HBA6 := Lib.hid (HBAy.out.fr (HX3.out.2.then_ HX6.out.2) (hnt _ (by omega)))
              obtain ⟨NI, hNI⟩ : ∃ x, u6.heap.size = x := ⟨_, rfl⟩
              obtain ⟨u7, hu7⟩ : ∃ x, u6.alloc (.cells #[.int .i64 0] 3 (0, 0)) = x := ⟨_, rfl⟩
              have hF7 : Fr No u6 u7 := by rw [← hu7]; exact (Fr.refl _ _).alloc _
              have hWN : W.heap.size ≤ NI := by rw [← hNI]; exact hF6.size
              have hz7 : NI < u7.heap.size := by rw [← hu7, ← hNI]; simp
              have hz7' : u6.heap.size ≤ u7.heap.size := hF7.size
              have HBI7 := Lib.hid (show Bk u7 NI 3 [.int .i64 (([] : List {x : Int × Int // x ∈ VtI.saidT (s7 id 0 sd4 sp4) 0}).length : Int)] by rw [← hu7, ← hNI]; exact Bk.new u6 3 [.int .i64 0])
              have HT7 := Lib.hid (HX6.out.1.fr hF7 (fun _ _ q => q))
              have hF67 : Fr (fun j => t.has j ∨ j = NA ∨ j = NT) W u7 := hF6.trans hF7 (fun _ _ q => q.elim)
              have HB07 := Lib.hid (HB0W.out.fr hF67 (hne _ (by omega) (by omega)))
              have HB17 := Lib.hid (HB1W.out.fr hF67 (hne _ (by omega) (by omega)))
              have HB27 := Lib.hid (HB2W.out.fr hF67 (hne _ (by omega) (by omega)))
              have HB37 := Lib.hid (HB3W.out.fr hF67 (hne _ (by omega) (by omega)))
              have HBT7 := Lib.hid (HBT6.out.fr hF7 id)
              have HBA7 := Lib.hid (HBA6.out.fr hF7 id)
              obtain ⟨rl, hrl'⟩ := HREC.out
              have hl7 : u7.heap[l]? = some (.loop rl) := (hF67.block l (Array.getElem?_eq_some_iff.1 hrl').1 (fun q => by
                rcases q with q | q | q
                · have := HLT.out l q; omega
                · omega
                · omega)).trans hrl'
              have HL7 := Lib.hid hl7
              have HF67 := Lib.hid hF67
              have HF7 := Lib.hid hF7
              have HU7 := Lib.hid hu7
              have HNI := Lib.hid hNI
              obtain ⟨f0, ff⟩ := HB37.out.one
              obtain ⟨f1, ff1⟩ := HB37.out.one
              rw [← hu7] at f1 ff1
              obtain ⟨l5, l6⟩ := HT7.out.r.len
              obtain ⟨e5, e6⟩ := And.intro l5 l6
              clear hR6 hG6 hF6 hF67 hF7 hu7 hNI hl7 hrl' x0 x1 x2 xf m0 mf q0 qf
              have HL56 := Lib.hid (And.intro l5 l6)
              clear l5 l6 e5 e6
              go_wp2
              gi_wp2
              rw [HU7.out]
              try rw [HNI.out]
              clear f0 ff f1 ff1
              refine range_in (r₀ := rl) HL7.out (gf := 65) (lb := #[.pointer (some ⟨N2, 0, none⟩)]) rfl (enters_of Try.func65 (by kernel_rfl) rfl)
                (VtI.tally_stops_mem Fence.wide 6 trivial rfl (by omega) N2 t.a 0 n (s7 id 0 sd4 sp4) u7 HT7.out.a (Nat.zero_le _) HB27.out.lt (HB27.out.cell 0)) (fun _ => rfl)
                (fun pre' W' => Bk W' NI 3 [.int .i64 (pre'.length : Int)] ∧ Fr (fun j => j = NI) u7 W')
                ?jI ⟨HBI7.out, Fr.refl _ _⟩ ?ja₁ ?jassign ?jbody ?jdone
              case jI =>
                rintro pre' A B row ⟨g1, g2⟩ hg hr
                have hr' := fun r e => (hr r e).2
                exact ⟨bk_kept g1 hg hr', Fr.grown_on g2 hg (fun r e => (hr r e).1)⟩
              case jassign =>
                intro l' x W' K hK
                gi_wp2
                exact hK
              case jbody =>
                rintro l' pre' ⟨⟨yi, yv⟩, hy⟩ W' ⟨g1, g2⟩ hlen'
                obtain ⟨l5, l6⟩ := HL56.out
                obtain ⟨kk, hkk, hy1, hy2, hy3⟩ := told_mem l5 l6 hhi hy
                dsimp only at hy1 hy3 ⊢
                subst hy1
                have hWs := HFRW.out.size
                have HG := Lib.hid (fun (W1 : World) (hW : Fr No W' W1) => (rGet_ ((HT7.out.r.fr g2 (by omega) (by omega) (by omega)).fr hW id id id) hhi kk yv true hy3 hy2).mono fun e w' hh => (show e = .returned (.tuple #[.int .i64 yv, .bool true]) ∧ w' = W1 from ⟨by rw [hh.1]; rfl, hh.2⟩))
                have HB08 := Lib.hid (HB07.out.fr g2 (by omega))
                have hle : IntKind.i64.wrap ((pre'.length : Int) + 1) = (pre'.length : Int) + 1 := IntWalk.i64_in _ (by omega)
                have eyv : (yv != yv) = false := by simp
                have HG1 := Lib.hid g1
                have HG2 := Lib.hid g2
                obtain ⟨x0, x1, x2, xf⟩ := HB08.out.three
                obtain ⟨b0, bf⟩ := g1.one
                clear g1 g2 hy2 hy3 l5 l6
                gi_wp2_with fail
                refine ⟨trivial, CallsIn.inRound l' (callsIn_wide.2 ((HG.out _ (Fr.refl _ _)).mono ?_))⟩
                rintro e w9 ⟨rfl, hw9⟩
                rw [hw9]
                clear hw9
                gi_wp2
                exact ⟨(ko_fr ((Fr.refl (fun j => j = NI) W').set (p := ⟨NI, 0, none⟩) (.inl rfl) _) (fun j hj _ => by subst hj; exact ⟨_, HG1.out.bt⟩)).from _, ((Fr.refl (fun j => j = NI) W').set (p := ⟨NI, 0, none⟩) (.inl rfl) _).toB (fun _ _ => Nat.zero_le _) (Nat.zero_le _), by rw [List.length_append]; exact HG1.out.set 0 _, HG2.out.set (p := ⟨NI, 0, none⟩) (.inl rfl) _⟩
              case jdone =>
                rintro xs W' hxs ⟨g1, g2⟩
                obtain ⟨l5, l6⟩ := HL56.out
                have hcn : xs.length = cnt sp4 := by have h2 := congrArg List.length hxs; rw [List.length_map] at h2; exact h2.trans (tells l5 l6 hhi).len
                rw [hcn] at g1
                obtain ⟨C4, hC4⟩ : ∃ C4 : Int, ((cnt sp4 : Nat) : Int) = C4 := ⟨_, rfl⟩
                rw [hC4] at g1
                have hWs := HFRW.out.size
                have HG1 := Lib.hid g1
                have HRC4 := Lib.hid (fun (W1 : World) (hW : Fr No W' W1) => (rCount_ ((HT7.out.r.fr g2 (by omega) (by omega) (by omega)).fr hW id id id) hhi).mono fun e w' hh => (show e = .returned (.int .i64 C4) ∧ w' = W1 from ⟨by rw [hh.1, hC4], hh.2⟩))
                have HB08 := Lib.hid (HB07.out.fr g2 (by omega))
                have eC : (C4 != C4) = false := by simp
                have hFX : Fr (fun j => t.has j ∨ j = NA ∨ j = NT) W W' := HF67.out.trans g2 (fun j hj e => by omega)
                have HFX := Lib.hid hFX
                have HTX9 := Lib.hid (HT7.out.fr g2 (fun j hj e => by have := HLT.out j hj; omega))
                have HBTX := Lib.hid (HBT7.out.fr g2 (by omega))
                have HBAX := Lib.hid (HBA7.out.fr g2 (by omega))
                obtain ⟨x0, x1, x2, xf⟩ := HB08.out.three
                obtain ⟨b0, bf⟩ := g1.one
                clear g1 g2 hxs hcn hC4 l5 l6 hFX
                gi_wp2
                refine quietW_in_round rfl (by rintro ⟨_, _, q⟩; exact q) (by kernel_rfl) (by kernel_rfl) ?_
                repeat (go_big_quiet_step (exact Calls.quiet_of_same (HRC4.out _ ((Fr.refl No _).drewN _))))
                refine wpQuiet_nil ?_
                intro _ hw'
                obtain ⟨nq9, hw''⟩ := hw'
                subst hw''
                obtain ⟨w9, hw9⟩ : ∃ x, W'.drewN nq9 = x := ⟨_, rfl⟩
                rw [hw9]
                have hF9 : Fr No W' w9 := by rw [← hw9]; exact (Fr.refl _ _).drewN _
                clear hw9
                gi_wp2
                have hFY : Fr (fun j => t.has j ∨ j = NA ∨ j = NT) W w9 := HFX.out.trans hF9 (fun _ _ q => q.elim)
                exact ⟨(ko_fr hFY (fun j hj _ => by
                  rcases hj with q | rfl | rfl
                  · rcases HTW.out.bt q with q | q | q | q | q <;> exact ⟨_, q⟩
                  · exact ⟨_, HBAW.out.bt⟩
                  · exact ⟨_, HBTW.out.bt⟩)).from _, hFY.toB (fun _ _ => Nat.zero_le _) (Nat.zero_le _), ⟨⟨k' + 1, by omega, by rw [HPK.out, HP'.out]; rfl, HBAX.out.fr hF9 id⟩, by rw [List.length_append]; exact HBTX.out.fr hF9 id, ⟨_, _, HTX9.out.fr hF9 (fun _ _ q => q)⟩, HFRW.out.trans hFY (fun _ _ q => q)⟩⟩
            · have HNP := Lib.hid (HNX.out (xi, xv) hx)
              by_cases hx1 : xi = (k' : Int)
              · have hx2 : xv ≠ v' := fun e => hx (by rw [hx1, e])
                have e1 : (xi != (k' : Int)) = false := by rw [bne_eq_false_iff_eq]; exact hx1
                have e2' : (xv != v') = true := by rw [bne_iff_ne]; exact hx2
                subst hx1
                gi_wp2
                refine quiet_in_round rfl (by kernel_rfl) (by kernel_rfl) ?_
                repeat (gi_big_quiet_step (fail))
                refine wpQuietIn_nil ?_
                intro _ hw'
                obtain ⟨nq2, hw''⟩ := hw'
                subst hw''
                obtain ⟨wnq2, hwnq2⟩ : ∃ x, (wnq).drewN nq2 = x := ⟨_, rfl⟩
                rw [hwnq2]
                have hFnq2 : Fr No wnq wnq2 := by rw [← hwnq2]; exact (Fr.refl _ _).drewN _
                clear hwnq2
                have hb2 := HB1r.out.fr (hFnq.then_ hFnq2) id
                obtain ⟨e2, e2f⟩ := hb2.one
                gi_wp2
                exact ⟨(ko_fr (((HFr.out.mono (fun _ _ e => .inr e) : Fr (fun j => j = N1 ∨ j = NA) W wr).trans (hFnq.then_ hFnq2) (fun _ _ q => q.elim)).set (p := ⟨N1, 0, none⟩) (.inl (.inl rfl)) _) hbt).from _, rfl, HNP.out⟩
              · have e1 : (xi != (k' : Int)) = true := by rw [bne_iff_ne]; exact hx1
                gi_wp2
                refine quiet_in_round rfl (by kernel_rfl) (by kernel_rfl) ?_
                repeat (gi_big_quiet_step (fail))
                refine wpQuietIn_nil ?_
                intro _ hw'
                obtain ⟨nq2, hw''⟩ := hw'
                subst hw''
                obtain ⟨wnq2, hwnq2⟩ : ∃ x, (wnq).drewN nq2 = x := ⟨_, rfl⟩
                rw [hwnq2]
                have hFnq2 : Fr No wnq wnq2 := by rw [← hwnq2]; exact (Fr.refl _ _).drewN _
                clear hwnq2
                have hb2 := HB1r.out.fr (hFnq.then_ hFnq2) id
                obtain ⟨e2, e2f⟩ := hb2.one
                gi_wp2
                exact ⟨(ko_fr (((HFr.out.mono (fun _ _ e => .inr e) : Fr (fun j => j = N1 ∨ j = NA) W wr).trans (hFnq.then_ hFnq2) (fun _ _ q => q.elim)).set (p := ⟨N1, 0, none⟩) (.inl (.inl rfl)) _) hbt).from _, rfl, HNP.out⟩
        · obtain rfl : k' = n := by omega
          have HNP := Lib.hid (HTL.out.no_more x)
          rw [HP'.out] at HNP
          have d1 : decide ((k' : Int) < (k' : Int)) = false := decide_eq_false (by omega)
          have d2 : decide ((k' : Int) ≤ (k' : Int)) = true := decide_eq_true (by omega)
          clear hb hs hp
          obtain ⟨xi, xv⟩ := x
          dsimp only
          gi_wp2
          refine quiet_in_round rfl (by kernel_rfl) (by kernel_rfl) ?_
          repeat (gi_big_quiet_step (fail))
          refine wpQuietIn_nil ?_
          intro _ hw'
          obtain ⟨nq, hw''⟩ := hw'
          subst hw''
          obtain ⟨wnq, hwnq⟩ : ∃ x, (wr).drewN nq = x := ⟨_, rfl⟩
          rw [hwnq]
          have hFnq : Fr No wr wnq := by rw [← hwnq]; exact (Fr.refl _ _).drewN _
          clear hwnq
          clear r0 r1 rf g0 gf n0 nf c3 cf
          obtain ⟨m0, mf⟩ := (HB4r.out.fr hFnq id).one
          obtain ⟨y0, yf⟩ := (HBWr.out.fr hFnq id).one
          obtain ⟨d3, df⟩ := (HBA'.out.fr hFnq id).one
          obtain ⟨s0, s1, sf⟩ := (HRB.out.fr hFnq id).two
          gi_wp2
          refine quiet_in_round rfl (by kernel_rfl) (by kernel_rfl) ?_
          repeat (gi_big_quiet_step (fail))
          refine wpQuietIn_nil ?_
          intro _ hw'
          obtain ⟨nq2, hw''⟩ := hw'
          subst hw''
          obtain ⟨wnq2, hwnq2⟩ : ∃ x, (wnq).drewN nq2 = x := ⟨_, rfl⟩
          rw [hwnq2]
          have hFnq2 : Fr No wnq wnq2 := by rw [← hwnq2]; exact (Fr.refl _ _).drewN _
          clear hwnq2
          have hb2 := HB1r.out.fr (hFnq.then_ hFnq2) id
          obtain ⟨e2, e2f⟩ := hb2.one
          gi_wp2
          exact ⟨(ko_fr (((HFr.out.mono (fun _ _ e => .inr e) : Fr (fun j => j = N1 ∨ j = NA) W wr).trans (hFnq.then_ hFnq2) (fun _ _ q => q.elim)).set (p := ⟨N1, 0, none⟩) (.inl (.inl rfl)) _) hbt).from _, rfl, HNP.out⟩
    case rest =>
      rintro D xs W hD rfl ⟨⟨k, hk, hp, h3⟩, h4, ⟨sd, sp, hT⟩, hF⟩ hK
      have hn := HN.out
      have hne : ∀ j, N ≤ j → j < NA → ¬ (t.has j ∨ j = NA ∨ j = NT) := fun j h1 h2 q => by
        rcases q with q | q | q
        · exact hnt j h1 q
        · omega
        · omega
      have hDl : D < W.heap.size := (Array.getElem?_eq_some_iff.1 hK).1
      have HB0W := Lib.hid (HB0.out.fr hF (hne _ (by omega) (by omega)))
      have HB1W := Lib.hid (HB1.out.fr hF (hne _ (by omega) (by omega)))
      have HBWW := Lib.hid (HBW.out.fr hF (hne _ (by omega) (by omega)))
      have HR2W := Lib.hid (HR20.out.fr hF (hne _ (by have := HR2L.out; omega) (by have := HR2L.out; omega)) (hne _ (by have := HR2L.out; omega) (by have := HR2L.out; omega)) (hne _ (by have := HR2L.out; omega) (by have := HR2L.out; omega)))
      obtain ⟨C1, hC1⟩ : ∃ x : Int, ((cnt spoke1 : Nat) : Int) = x := ⟨_, rfl⟩
      have HRC := Lib.hid (fun (W1 : World) (hW : Fr No W W1) => (rCount_ (HR2W.out.fr hW id id id) hhi).mono fun e w' hh => (show e = .returned (.int .i64 C1) ∧ Fr No W1 w' from ⟨by rw [hh.1, hC1], by rw [hh.2]; exact Fr.refl _ _⟩))
      have HAL := Lib.hid (fun (W1 : World) (hW : Fr No W W1) => (show Calls Try.prog 20 #[.agg #[.pointer (some ⟨t.a, 0, none⟩), .pointer (some ⟨t.b, 0, none⟩), .pointer (some ⟨t.r, 0, none⟩)], .int .i64 9] W1 fun e w' => e = .returned (.bool true) ∧ Fr No W1 w' from thAll (hT.fr hW (fun _ _ q => q)) 9 (by omega) (by omega)))
      rw [HTL.out.len, hC1] at h4
      have HBTW := Lib.hid h4
      have HTW := Lib.hid hT
      have HFW1 := Lib.hid (show Fr t.has w W from HFW.out.trans hF (fun j hj q => by
        rcases q with q | q | q
        · exact q
        · omega
        · omega))
      have HKW := Lib.hid hK
      clear h4 hK hF h3 hT q0 qf hC1
      obtain ⟨x0, x1, x2, xf⟩ := HB0W.out.three
      obtain ⟨b0, bf⟩ := HB1W.out.one
      obtain ⟨c0, cf⟩ := HBWW.out.one
      obtain ⟨d0, df⟩ := HBTW.out.one
      go_upto_region 37 with (fail)
      refine wp_calm ?_
      go_region_law (first | (go_simp; go_at_call 47; refine (HRC.out _ ((Fr.refl No _).drew)).mono ?_; rintro e wc ⟨rfl, hFc⟩; have hFc : Fr No W wc := ((Fr.refl No _).drew).then_ hFc; obtain ⟨y0, y1, y2, yf⟩ := (HB0W.out.fr hFc id).three; obtain ⟨z0, zf⟩ := (HBTW.out.fr hFc id).one) | (go_simp; go_at_call 20; refine (HAL.out wc hFc).mono ?_; rintro e wa ⟨rfl, hFa⟩; have hFa : Fr No W wa := hFc.then_ hFa; obtain ⟨o0, of0⟩ := (HB1W.out.fr hFa id).one))
      all_goals
        have fin : ∀ v, v = Value.bool true → Fr t.has w ((wa.setCell ⟨N1, 0, none⟩ v).putObj D (.deferred none)) ∧ ((wa.setCell ⟨N1, 0, none⟩ v).putObj D (.deferred none)).cell? ⟨N1, 0, none⟩ = some (.bool true) ∧ (wa.setCell ⟨N1, 0, none⟩ v).heap[D]? = some (.deferred (some [])) ∧ Th ((wa.setCell ⟨N1, 0, none⟩ v).putObj D (.deferred none)) t n sd sp := by
          rintro v rfl
          have g0 : Fr (fun j => j = N1) W (wa.setCell ⟨N1, 0, none⟩ (.bool true)) := (hFa.mono (fun _ _ q => q.elim) : Fr (fun j => j = N1) W wa).set (p := ⟨N1, 0, none⟩) (.inl rfl) _
          have g1 : Fr t.has w (wa.setCell ⟨N1, 0, none⟩ (.bool true)) := HFW1.out.trans g0 (fun j hj e => by omega)
          have k1 : (wa.setCell ⟨N1, 0, none⟩ (.bool true)).heap[D]? = some (.deferred (some [])) := (g0.block D hDl (by omega)).trans HKW.out
          have p1 := grownBy_putObj' (wa.setCell ⟨N1, 0, none⟩ (.bool true)) D (.deferred none)
          have hrr : ∀ r, some D = some r → ∃ o : Obj, (wa.setCell ⟨N1, 0, none⟩ (.bool true)).heap[r]? = some o ∧ o.isCells = false := fun r e => by cases e; exact ⟨_, k1, rfl⟩
          have r0 : (wa.setCell ⟨N1, 0, none⟩ (.bool true)).cell? ⟨N1, 0, none⟩ = some (.bool true) := World.cell?_setCell_same' wa _ _ (by rw [o0]; rfl)
          exact ⟨Fr.grown_on g1 p1 (fun r e => by cases e; omega), cell_kept r0 p1 hrr, k1, (HTW.out.fr g0 (fun j hj e => hnt j (by omega) hj)).grown p1 hrr⟩
        obtain ⟨hfin1, hfin2, hfin3, hfin4⟩ := fin _ rfl
        have HFN := Lib.hid (And.intro hfin1 (And.intro hfin3 hfin4))
        have HFC := Lib.hid hfin2
        clear fin hfin1 hfin2 hfin3 hfin4
        go_wp2
        refine ⟨by simp, .inl ⟨_, _, rfl, run_takeDeferred HFN.out.2.1, ?_⟩⟩
        have hres := HFC.out
        refine ⟨_, by simp [results, Try.results52, go_sem, hres], rfl, ⟨_, _, HFN.out.2.2⟩, HFN.out.1⟩
end Go.Proofs.Ytobnehbcnlhchaa.Vt
