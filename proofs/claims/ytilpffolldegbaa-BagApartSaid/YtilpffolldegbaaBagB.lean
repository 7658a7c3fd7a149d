/- A bag's calls: who is an end, a place, laying a packet in. Conditions: none. -/
import Derived.Test.YtilpffolldegbaaBagA
namespace Go.Proofs.Ytilpffolldegbaa.Bg
open Go.RowKit Go.Proofs.Ytilpffolldegbaa.Mem
set_option linter.unusedVariables false
set_option linter.unusedSimpArgs false

def endS (n : Int) : Bool := decide ((0 ≤ n ∧ n < 7) ∨ (8 ≤ n ∧ n < 16))
theorem bend (n : Int) (w : World) : Calls Try.prog 32 #[.int .i64 n] w fun e w' => e = .returned (.bool (endS n)) ∧ w' = w := by
  rcases (by omega : n < 0 ∨ (0 ≤ n ∧ n < 7) ∨ n = 7 ∨ (8 ≤ n ∧ n < 16) ∨ 16 ≤ n) with h | ⟨h, h'⟩ | rfl | ⟨h, h'⟩ | h
  all_goals
    go_enter Try.func32, Try.ntmps32
    go_wp2
    go_ret
    refine ⟨congrArg Ending.returned (congrArg Value.bool ?_), rfl⟩
    unfold endS
    rw [Bool.eq_iff_iff]
    first | (simp; done) | (simp; omega)
def thereS (n : Nat) (i : Int) : Bool := decide (0 ≤ i ∧ i < (n : Int))
theorem bthere {H : Nat → Prop} {g : Nat} {rb : Option Nat} {s : St} (i : Int) (w : World) (hB : Bag H w g rb s) : Calls Try.prog 35 #[.pointer (some ⟨g, 0, none⟩), .int .i64 i] w fun e w' => e = .returned (.bool (thereS s.ps.length i)) ∧ w' = w := by
  obtain ⟨v, h1, h2⟩ := hB
  obtain ⟨A, c, rfl, hc⟩ := h2.val
  have hm : s.ps.length ≤ maxLen := by obtain ⟨ch, h2, _⟩ := h2; exact h2.max
  unfold maxLen at hm
  have c2 := h1.cell 2
  simp at c2
  generalize s.ps.length = n at *
  clear h1 h2
  rcases (by omega : i < 0 ∨ (0 ≤ i ∧ i < (n : Int)) ∨ (0 ≤ i ∧ (n : Int) ≤ i)) with h | ⟨h, h'⟩ | ⟨h, h'⟩
  all_goals
    go_enter Try.func35, Try.ntmps35
    go_wp2
    go_ret
    refine ⟨congrArg Ending.returned (congrArg Value.bool ?_), rfl⟩
    unfold thereS
    rw [Bool.eq_iff_iff]
    first | (simp; done) | (simp; omega)
theorem bLen {H : Nat → Prop} {g : Nat} {rb : Option Nat} {s : St} (w : World) (hB : Bag H w g rb s) : Calls Try.prog 16 #[.pointer (some ⟨g, 0, none⟩)] w fun e w' => e = .returned (.int .i64 (s.ps.length : Nat)) ∧ w' = w := by
  obtain ⟨v, h1, h2⟩ := hB
  obtain ⟨A, c, rfl, hc⟩ := h2.val
  have c2 := h1.cell 2
  simp at c2
  go_enter Try.func16, Try.ntmps16
  go_wp2
  go_ret
  exact ⟨rfl, rfl⟩
def Pk.own (p : Pk) : Pk := p
theorem btold {H : Nat → Prop} (p : Pk) (A : Option Addr) (c : Nat) (w : World) (hl : p.data.length ≤ c) (hn : p.data.length ≤ 140737488355328) (hA : BR (T8 5 H w) w A p.data) (hH : ∀ k, w.heap.size ≤ k → ¬ H k) :
    Calls Try.prog 36 #[.agg (p.cells A c).toArray] w fun e w' => ∃ b, e = .returned (.agg (p.cells (some ⟨b, 0, none⟩) p.data.length).toArray) ∧ w.heap.size ≤ b ∧ Bk w' b 5 (bv p.data) ∧ Fr No w w' := by
  obtain ⟨num, fr, to, age, turned, data⟩ := p
  have HA := Lib.hid hA
  clear hA
  unfold Pk.cells
  dsimp only at *
  go_enter Try.func36, Try.ntmps36
  go_wp2_with fail
  obtain ⟨w2, hw2⟩ : ∃ w2, (w.alloc (.cells #[.int .i64 num, .int .i64 fr, .int .i64 to, .int .i64 age, .int .i64 turned, .slice A data.length c] 31 (0, 0))).alloc (.cells #[.int .i64 0, .int .i64 0, .int .i64 0, .int .i64 0, .int .i64 0, .slice none 0 0] 31 (0, 0)) = w2 := ⟨_, rfl⟩
  have hF : Fr No w w2 := by rw [← hw2]; exact ((Fr.refl _ _).alloc _).alloc _
  have hs : w2.heap.size = w.heap.size + 2 := by rw [← hw2]; simp
  have hb : Bk w2 w.heap.size 31 [.int .i64 num, .int .i64 fr, .int .i64 to, .int .i64 age, .int .i64 turned, .slice A data.length c] := by rw [← hw2]; exact (Bk.new w _ _).alloc _
  have hz : Bk w2 (w.heap.size + 1) 31 [.int .i64 0, .int .i64 0, .int .i64 0, .int .i64 0, .int .i64 0, .slice none 0 0] := by rw [← hw2]; simpa using Bk.new (w.alloc (.cells #[.int .i64 num, .int .i64 fr, .int .i64 to, .int .i64 age, .int .i64 turned, .slice A data.length c] 31 (0, 0))) 31 [.int .i64 0, .int .i64 0, .int .i64 0, .int .i64 0, .int .i64 0, .slice none 0 0]
  rw [hw2]
  refine (copied A data.length c data w2 rfl hn (HA.out.any.fr (S := No) hF (fun _ _ _ q => q))).mono ?_
  rintro e w3 ⟨rfl, hB3, hF3⟩
  obtain ⟨b0, b1, b2, b3, b4, b5, bf⟩ := (hb.fr hF3 id).six
  obtain ⟨z0, z1, z2, z3, z4, z5, zf⟩ := (hz.fr hF3 id).six
  have HB := Lib.hid hB3
  have HF := Lib.hid (hF.then_ hF3)
  clear hw2 hb hz hF hF3 hB3
  go_wp2
  refine bodyPost_ret (v := .agg #[.int .i64 num, .int .i64 fr, .int .i64 to, .int .i64 age, .int .i64 turned, .slice (some ⟨w.heap.size + 2, 0, none⟩) data.length data.length]) (by simp [results, Try.results36, go_sem, z0, z1, z2, z3, z4, z5,]) rfl ⟨w.heap.size + 2, rfl, by omega, ?_, ?_⟩
  · rw [← hs]
    repeat (refine Bk.far ?_ (by show _ ≠ _; simp; try omega) _)
    exact HB.out
  · repeat (refine Fr.set ?_ (.inr (by simp)) _)
    exact HF.out

/-- what a lay comes to -/
def layS (s : St) (p : Pk) : St × Int := if s.room ≤ (s.ps.length : Int) then (s, 155) else ({ s with laid := s.laid + 1, ps := s.ps ++ [{ p with num := s.laid + 1, age := 0 }] }, 0)
theorem blay {H : Nat → Prop} {g : Nat} {rb : Option Nat} {s : St} (p : Pk) (A : Option Addr) (c : Nat) (w : World) (hl : p.data.length ≤ c) (hA : BR (T8 5 H w) w A p.data) (hB : Bag H w g rb s) (hr : s.room ≤ 1024) (h0 : 0 ≤ s.laid) (h1 : s.laid ≤ 4611686018427387904) :
    Calls Try.prog 33 #[.pointer (some ⟨g, 0, none⟩), .agg (p.cells A c).toArray] w fun e w' => ∃ rb', e = .returned (.int .i64 (layS s p).2) ∧ Bag H w' g rb' (layS s p).1 ∧ Fr (Sg g rb) w w' ∧ Nb w rb rb' := by
  obtain ⟨num, fr, to, age, turned, data⟩ := p
  obtain ⟨room, laid, ps⟩ := s
  have hlt := hB.lt
  obtain ⟨v, hg, hp⟩ := hB
  obtain ⟨R, rc, rfl, hrc⟩ := hp.val
  unfold Pk.cells
  dsimp only at *
  have HA := Lib.hid hA
  have HP := Lib.hid hp
  have HG := Lib.hid hg
  have HL := Lib.hid hl
  by_cases hfull : room ≤ (ps.length : Int)
  · have hfin : layS ⟨room, laid, ps⟩ ⟨num, fr, to, age, turned, data⟩ = (⟨room, laid, ps⟩, 155) := if_pos hfull
    rw [hfin]
    have d1 : decide (room ≤ (ps.length : Int)) = true := decide_eq_true hfull
    obtain ⟨g0, g1, g2, gf⟩ := (hg.alloc (.cells #[.int .i64 num, .int .i64 fr, .int .i64 to, .int .i64 age, .int .i64 turned, .slice A data.length c] 31 (0, 0))).three
    obtain ⟨n, hn⟩ : ∃ n, ps.length = n := ⟨_, rfl⟩
    rw [hn] at d1 g2
    clear hA hp hg hrc hl hn hfull
    go_enter Try.func33, Try.ntmps33
    go_wp2
    go_quiet (fail)
    go_wp2
    go_ret
    have hF : Fr No w ((w.alloc (.cells #[.int .i64 num, .int .i64 fr, .int .i64 to, .int .i64 age, .int .i64 turned, .slice A data.length c] 31 (0, 0))).drewN nq) := ((Fr.refl _ _).alloc _).drewN _
    exact ⟨rb, rfl, Bag.below (w := w) ⟨_, HG.out, HP.out⟩ hF.to, hF.mono (fun _ _ q => q.elim), .inl rfl⟩
  · have hfin : layS ⟨room, laid, ps⟩ ⟨num, fr, to, age, turned, data⟩ = (⟨room, laid + 1, ps ++ [⟨laid + 1, fr, to, 0, turned, data⟩]⟩, 0) := if_neg hfull
    rw [hfin]
    have d1 : decide (room ≤ (ps.length : Int)) = false := decide_eq_false hfull
    have hw1 : IntKind.i64.wrap (laid + 1) = laid + 1 := IntWalk.i64_in _ (by omega)
    obtain ⟨g0, g1, g2, gf⟩ := (hg.alloc (.cells #[.int .i64 num, .int .i64 fr, .int .i64 to, .int .i64 age, .int .i64 turned, .slice A data.length c] 31 (0, 0))).three
    obtain ⟨n, hn⟩ : ∃ n, ps.length = n := ⟨_, rfl⟩
    have HN := Lib.hid hn
    rw [hn] at d1 g2
    have hnr : n < 1024 := by omega
    clear hA hp hg hrc hl hn hfull
    go_enter Try.func33, Try.ntmps33
    go_wp2
    go_quiet (fail)
    go_wp2
    obtain ⟨w2, hw2⟩ : ∃ w2, (((((w.alloc (.cells #[.int .i64 num, .int .i64 fr, .int .i64 to, .int .i64 age, .int .i64 turned, .slice A data.length c] 31 (0, 0))).drewN nq).setCell ⟨g, 1, none⟩ (.int .i64 (laid + 1))).setCell ⟨w.heap.size, 0, none⟩ (.int .i64 (laid + 1))).setCell ⟨w.heap.size, 3, none⟩ (.int .i64 0)) = w2 := ⟨_, rfl⟩
    have hF2 : Fr (fun k => k = g) w w2 := by rw [← hw2]; exact (((((Fr.refl (fun k => k = g) w).alloc _).drewN _).set (p := ⟨g, 1, none⟩) (.inl rfl) _).set (p := ⟨w.heap.size, 0, none⟩) (.inr (Nat.le_refl _)) _).set (p := ⟨w.heap.size, 3, none⟩) (.inr (Nat.le_refl _)) _
    have hg2 : Bk w2 g 76 [.int .i64 room, .int .i64 (laid + 1), .slice R ps.length rc] := by
      rw [← hw2]
      refine Bk.far (Bk.far ?_ (by show _ ≠ _; simp; omega) _) (by show _ ≠ _; simp; omega) _
      exact Bk.set (t := 76) (cs := [.int .i64 room, .int .i64 laid, .slice R ps.length rc]) ((HG.out.alloc _)) 1 _
    have hb2 : Bk w2 w.heap.size 31 [.int .i64 (laid + 1), .int .i64 fr, .int .i64 to, .int .i64 0, .int .i64 turned, .slice A data.length c] := by
      rw [← hw2]
      exact Bk.set (Bk.set (Bk.far (t := 31) (cs := [.int .i64 num, .int .i64 fr, .int .i64 to, .int .i64 age, .int .i64 turned, .slice A data.length c]) (Bk.new w _ _) (by show _ ≠ _; simp; omega) _) 0 (.int .i64 (laid + 1))) 3 (.int .i64 0)
    have hp2 := HP.out.fr (w1 := w2) hF2 (fun k hk e => by subst e; exact (HP.out.bt hk).ne HG.out.bt (by decide) rfl) (fun k hk h8 => by subst hk; exact absurd rfl (HG.out.bt.ne h8 (by decide)))
    have hA2 := HA.out.frT hF2 (fun k hk h8 => by subst hk; exact absurd rfl (HG.out.bt.ne h8 (by decide)))
    rw [hw2]
    clear g0 g1 g2 gf
    obtain ⟨g0, g1, g2, gf⟩ := hg2.three
    obtain ⟨b0, b1, b2, b3, b4, b5, bf⟩ := hb2.six
    rw [HN.out] at g2
    have hs2 : w.heap.size < w2.heap.size := hb2.lt
    have hlt2 : g < w2.heap.size := hg2.lt
    obtain ⟨ch, hrow, hall⟩ := hp2
    have hW : Fr No w2 (w2.alloc (.cells #[.int .i64 (laid + 1), .int .i64 fr, .int .i64 to, .int .i64 0, .int .i64 turned, .slice A data.length c] 31 (0, 0))).drew := ((Fr.refl _ _).alloc _).drew
    have HROW := Lib.hid (hrow.fr hW (fun _ _ q => q))
    rw [HN.out] at HROW
    have HNEW := Lib.hid (fun (j : Nat) (u : Value) (hj : [Value.int .i64 (laid + 1), .int .i64 fr, .int .i64 to, .int .i64 0, .int .i64 turned, .slice A data.length c][j]? = some u) =>
      show ((w2.alloc (.cells #[.int .i64 (laid + 1), .int .i64 fr, .int .i64 to, .int .i64 0, .int .i64 turned, .slice A data.length c] 31 (0, 0))).drew).cell? ((⟨w2.heap.size, 0, none⟩ : Addr).add j) = some u by rw [add0]; exact ((Bk.new w2 31 [Value.int .i64 (laid + 1), .int .i64 fr, .int .i64 to, .int .i64 0, .int .i64 turned, .slice A data.length c]).cell j).trans hj)
    have hone : ∀ u ∈ [Value.int .i64 (laid + 1), .int .i64 fr, .int .i64 to, .int .i64 0, .int .i64 turned, .slice A data.length c], u.oneCell' = true := by simp [Value.oneCell']
    have hne : ¬ rb = some g := fun e => (hrow.bt e).ne hg2.bt (by decide) rfl
    have HNE := Lib.hid hne
    have HONE := Lib.hid hone
    have HG2 := Lib.hid (hg2.fr hW id)
    have HA2 := Lib.hid hA2
    have HALL := Lib.hid hall
    have HF2 := Lib.hid hF2
    have HR2 := Lib.hid (fun k (hk : rb = some k) => (hrow.bt hk).ne hg2.bt (by decide))
    clear hw2 hg2 hb2 hA2 hrow hall hone HP HG HA hF2 hW hne
    go_region_law (first | (refine st_append _ rfl (.tmp 32) (.tmp 34) 45 rfl 31 _ 6 64 Try.underlying45 infoPk rfl (by decide) rb _ n ch.flatten rfl HROW.out (some ⟨w2.heap.size, 0, none⟩) 1 1 _ rfl rfl (fun _ => ⟨_, rfl, HNEW.out⟩) HONE.out (by unfold maxLen; omega) (by omega) ?_; intro A' c' w3 rb' hrow3 hF3 hnb3; obtain ⟨q0, q1, q2, qf⟩ := (HG2.out.fr hF3 HNE.out).three))
    all_goals
      have HROW3 := Lib.hid hrow3
      have hnb : Nb w rb rb' := Nb.new hnb3 (by simp; omega)
      have hg3 := HG2.out.fr hF3 HNE.out
      have hF13 : Fr (fun k => rb = some k) w2 w3 := Fr.trans (((Fr.refl _ _).alloc _).drew) hF3 (fun _ _ q => q)
      have hF : Fr (Sg g rb) w (w3.setCell ⟨g, 2, none⟩ (.slice A' (n + 1) c')) := ((HF2.out.mono (S' := Sg g rb) (fun k _ q => .inl q)).trans hF13 (fun k _ q => .inr q)).set (p := ⟨g, 2, none⟩) (.inl (.inl rfl)) _
      have hF23 : Fr (Sg g rb) w2 (w3.setCell ⟨g, 2, none⟩ (.slice A' (n + 1) c')) := (hF13.mono (S' := Sg g rb) (fun k _ q => .inr q)).set (p := ⟨g, 2, none⟩) (.inl (.inl rfl)) _
      have h8 : ∀ k, Sg g rb k → BT w2 k 5 → H k := by
        intro k hk q
        rcases hk with rfl | hk
        · exact absurd rfl (HG2.out.bt.ne (q.fr (((Fr.refl No _).alloc _).drew) id) (by decide))
        · exact absurd rfl ((HROW.out.bt hk).ne (q.fr (((Fr.refl No _).alloc _).drew) id) (by decide))
      have hgb' : ¬ rb' = some g := fun e => (hrow3.bt e).ne hg3.bt (by decide) rfl
      have HFIN : Hid (Bag H (w3.setCell ⟨g, 2, none⟩ (.slice A' (n + 1) c')) g rb' ⟨room, laid + 1, ps ++ [⟨laid + 1, fr, to, 0, turned, data⟩]⟩) := by
        refine ⟨_, hg3.set 2 _, ch ++ [[Value.int .i64 (laid + 1), .int .i64 fr, .int .i64 to, .int .i64 0, .int .i64 turned, .slice A data.length c]], ?_, ?_⟩
        · rw [List.length_append, HN.out, List.flatten_append]
          simp only [List.flatten_cons, List.flatten_nil, List.append_nil]
          exact HROW3.out.fr (S := fun k => k = g) ((Fr.refl (fun k => k = g) _).set (p := ⟨g, 2, none⟩) (.inl rfl) _) (fun k hk e => hgb' (by rw [hk, e]))
        · exact (HALL.out.imp (fun p cs h => h.fr hF23 h8)).append (All2.one ⟨A, c, rfl, HL.out, HA2.out.frT hF23 h8⟩)
      have HF := Lib.hid hF
      have HNB := Lib.hid hnb
      clear HROW3 hg3 hF13 h8 HG2 HA2 HALL HF2 HR2 HNE HONE HNEW HROW hF3 hnb3 hrow3 hF hF23 hgb' hnb
      go_wp2
      go_ret
      exact ⟨rb', rfl, HFIN.out, HF.out, HNB.out⟩
end Go.Proofs.Ytilpffolldegbaa.Bg
