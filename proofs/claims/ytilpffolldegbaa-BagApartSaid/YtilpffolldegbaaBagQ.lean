/- One step at a bag. Conditions: none. -/
import Derived.Test.YtilpffolldegbaaBagP
namespace Go.Proofs.Ytilpffolldegbaa.Bg
open Go.RowKit Go.Proofs.Ytilpffolldegbaa.Mem
set_option linter.unusedVariables false
set_option linter.unusedSimpArgs false

def takeS (s : St) (i : Int) : St × Int := if 0 ≤ i ∧ i < (s.ps.length : Int) then ({ s with ps := s.ps.eraseIdx i.toNat }, 0) else (s, 152)
def oneS (s : St) (o : OpV) : St × Int :=
  if o.kind = 0 then addS s o.a o.b o.data else if o.kind = 1 then takeS s o.a else if o.kind = 2 then dupS s o.a else if o.kind = 3 then flipS s o.a o.b o.y else if o.kind = 4 then (olderS s, 0) else (s, 0)
/-- a bag that is in order, b steps on -/
structure Okk (b : Int) (s : St) : Prop where
  room0 : 1 ≤ s.room
  room1 : s.room ≤ 1024
  len : (s.ps.length : Int) ≤ s.room
  laid0 : 0 ≤ s.laid
  laid1 : s.laid ≤ b
  pk : ∀ p ∈ s.ps, 0 ≤ p.age ∧ p.age ≤ b ∧ p.data.length ≤ 140737488355328
theorem Okk.small {b : Int} {s : St} (h : Okk b s) : Small s := fun p hp => (h.pk p hp).2.2
theorem Okk.lenN {b : Int} {s : St} (h : Okk b s) : s.ps.length ≤ 1024 := by have := h.len; have := h.room1; omega
theorem Okk.mono {b b' : Int} {s : St} (h : Okk b s) (hb : b ≤ b') : Okk b' s := ⟨h.room0, h.room1, h.len, h.laid0, by have := h.laid1; omega, fun p hp => by have := h.pk p hp; exact ⟨this.1, by omega, this.2.2⟩⟩
theorem lay_ok {b : Int} {s : St} (h : Okk b s) (hb : 0 ≤ b) (p : Pk) (hp : p.data.length ≤ 140737488355328) : Okk (b + 1) (layS s p).1 := by
  unfold layS
  split
  · exact h.mono (by omega)
  · have h1 := h.len
    have h2 := h.laid0
    have h3 := h.laid1
    refine ⟨h.room0, h.room1, by dsimp only; rw [List.length_append]; simp; omega, by dsimp only; omega, by dsimp only; omega, fun q hq => ?_⟩
    rcases List.mem_append.1 hq with hq | hq
    · have := h.pk q hq
      exact ⟨this.1, by omega, this.2.2⟩
    · simp at hq
      subst hq
      exact ⟨Int.le_refl _, by dsimp only; omega, hp⟩
theorem one_ok {b : Int} {s : St} (h : Okk b s) (hb : 0 ≤ b) (o : OpV) (ho : o.data.length ≤ 140737488355328) : Okk (b + 1) (oneS s o).1 := by
  unfold oneS
  split
  · unfold addS
    split
    · exact lay_ok h hb _ ho
    · exact h.mono (by omega)
  · split
    · unfold takeS
      split
      · refine ⟨h.room0, h.room1, ?_, h.laid0, by have := h.laid1; dsimp only; omega, fun q hq => ?_⟩
        · have h1 := h.len
          have h2 : (s.ps.eraseIdx o.a.toNat).length ≤ s.ps.length := (List.length_eraseIdx_le _ _)
          dsimp only
          omega
        · have := h.pk q (List.mem_of_mem_eraseIdx hq)
          exact ⟨this.1, by omega, this.2.2⟩
      · exact h.mono (by omega)
    · split
      · unfold dupS
        split
        · rename_i p hp
          split at hp
          · exact lay_ok h hb _ (h.small p (List.mem_of_getElem? hp))
          · cases hp
        · exact h.mono (by omega)
      · split
        · unfold flipS
          split
          · rename_i p hp
            split at hp
            · have hpm := List.mem_of_getElem? hp
              split
              · exact h.mono (by omega)
              · split
                · exact h.mono (by omega)
                · refine ⟨h.room0, h.room1, by have := h.len; dsimp only; rw [List.length_set]; exact this, h.laid0, by have := h.laid1; dsimp only; omega, fun q hq => ?_⟩
                  rcases List.mem_or_eq_of_mem_set hq with hq | hq
                  · have := h.pk q hq
                    exact ⟨this.1, by omega, this.2.2⟩
                  · rw [hq]
                    have := h.pk p hpm
                    exact ⟨this.1, by show p.age ≤ _; omega, by show (p.data.set _ _).length ≤ _; rw [List.length_set]; exact this.2.2⟩
            · cases hp
          · exact h.mono (by omega)
        · split
          · refine ⟨h.room0, h.room1, by have := h.len; simp only [olderS, List.length_map]; exact this, h.laid0, by have := h.laid1; simp only [olderS]; omega, fun q hq => ?_⟩
            obtain ⟨p, hp, rfl⟩ := List.mem_map.1 hq
            have := h.pk p hp
            exact ⟨by show 0 ≤ p.age + 1; omega, by show p.age + 1 ≤ _; omega, this.2.2⟩
          · exact h.mono (by omega)
set_option maxHeartbeats 1000000 in
set_option maxRecDepth 100000 in
theorem one {H : Nat → Prop} {g : Nat} {rb : Option Nat} {s : St} {b : Int} (o : OpV) (A : Option Addr) (c : Nat) (w : World) (hA : BR Any w A o.data) (hd : o.data.length ≤ 140737488355328) (hH : ∀ k, w.heap.size ≤ k → ¬ H k)
    (hB : Bag H w g rb s) (hok : Okk b s) (hb : b ≤ 4611686018427387904) :
    Calls Try.prog 19 #[.pointer (some ⟨g, 0, none⟩), .agg (o.cells A c).toArray] w fun e w' => ∃ rb', e = .returned (.int .i64 (oneS s o).2) ∧ Bag H w' g rb' (oneS s o).1 ∧ Fr (Sg g rb) w w' ∧ Nb w rb rb' := by
  obtain ⟨second, kind, oa, ob, oy, data⟩ := o
  unfold OpV.cells oneS
  dsimp only at *
  obtain ⟨w1, hw1⟩ : ∃ w1, w.alloc (.cells #[.bool second, .int .i64 kind, .int .i64 oa, .int .i64 ob, .int .i64 oy, .slice A data.length c] 44 (0, 0)) = w1 := ⟨_, rfl⟩
  have hF1 : Fr No w w1 := by rw [← hw1]; exact (Fr.refl _ _).alloc _
  have hH1 : ∀ k, w1.heap.size ≤ k → ¬ H k := fun k hk => hH k (by have := hF1.size; omega)
  have hB1 := hB.below hF1.to
  have hA1 := hA.fr hF1 (fun _ _ _ q => q)
  have HW := Lib.hid hw1
  have HF1 := Lib.hid hF1
  have HPOST := Lib.hid (fun (z : St × Int) (e : Ending) (w' : World) (h : ∃ rb', e = .returned (.int .i64 z.2) ∧ Bag H w' g rb' z.1 ∧ Fr (Sg g rb) w1 w' ∧ Nb w1 rb rb') =>
    show ∃ rb', e = .returned (.int .i64 z.2) ∧ Bag H w' g rb' z.1 ∧ Fr (Sg g rb) w w' ∧ Nb w rb rb' from by
      obtain ⟨rb', h1, h2, h3, h4⟩ := h
      exact ⟨rb', h1, h2, (HF1.out.mono (S' := Sg g rb) (fun _ _ q => q.elim)).then_ h3, h4.new HF1.out.size⟩)
  have hlb := hok.laid1
  by_cases k0 : kind = 0
  · rw [if_pos k0]
    subst k0
    have HC := Lib.hid ((bAdd (H := H) (g := g) (rb := rb) (s := s) oa ob A data.length c data w1 rfl hd hA1 hH1 hB1 hok.room1 hok.laid0 (by omega)).mono fun e w' h => HPOST.out _ e w' h)
    clear hA hd hH hB hok hB1 hA1 hH1 hw1 hF1 HPOST
    generalize addS s oa ob data = z at *
    obtain ⟨z1, z2⟩ := z
    dsimp only at *
    generalize data.length = dl at *
    go_enter Try.func19, Try.ntmps19
    go_wp2_with fail
    rw [HW.out]
    refine HC.out.mono ?_
    rintro e w2 ⟨rb', rfl, h1, h2, h3⟩
    have H1 := Lib.hid h1
    have H2 := Lib.hid h2
    have H3 := Lib.hid h3
    clear h1 h2 h3
    go_wp2
    go_ret
    exact ⟨rb', rfl, H1.out, H2.out, H3.out⟩
  rw [if_neg k0]
  have b0 : (kind == 0) = false := by simpa using k0
  by_cases k1 : kind = 1
  · rw [if_pos k1]
    subst k1
    unfold takeS
    by_cases hi : 0 ≤ oa ∧ oa < (s.ps.length : Int)
    · rw [if_pos hi]
      obtain ⟨k, rfl⟩ := Int.eq_ofNat_of_zero_le hi.1
      have hk : k < s.ps.length := by omega
      rw [Int.toNat_natCast]
      have HC := Lib.hid (bTake_some (H := H) (g := g) (rb := rb) (s := s) k hk w1 hB1 (hok.small _ (List.getElem_mem _)) hH1)
      have HP := Lib.hid (fun (w' : World) (h1 : Bag H w' g rb { s with ps := s.ps.eraseIdx k }) (h2 : Fr (Sg g rb) w1 w') => HPOST.out ({ s with ps := s.ps.eraseIdx k }, 0) _ w' ⟨rb, rfl, h1, h2, .inl rfl⟩)
      clear hA hd hH hB hok hB1 hA1 hH1 hw1 hF1 HPOST
      generalize { s with ps := s.ps.eraseIdx k } = z at *
      generalize s.ps[k] = p at *
      obtain ⟨num, fr, to, age, turned, pdata⟩ := p
      unfold Pk.cells at HC
      dsimp only at *
      generalize data.length = dl at *
      generalize pdata.length = pl at *
      go_enter Try.func19, Try.ntmps19
      go_wp2_with fail
      rw [HW.out]
      refine HC.out.mono ?_
      rintro e w2 ⟨bb, rfl, hbb, hkk, h1, h2⟩
      have hF3 : Fr No w2 (w2.alloc (.cells #[.int .i64 num, .int .i64 fr, .int .i64 to, .int .i64 age, .int .i64 turned, .slice (some ⟨bb, 0, none⟩) pl pl] 31 (0, 0))) := (Fr.refl _ _).alloc _
      have H1 := Lib.hid (HP.out _ (h1.below hF3.to) (h2.then_ (hF3.mono (fun _ _ q => q.elim))))
      clear h1 h2 hkk hF3 HP
      go_wp2
      go_ret
      obtain ⟨rb', _, h⟩ := H1.out
      exact ⟨rb', rfl, h⟩
    · rw [if_neg hi]
      have HC := Lib.hid (bTake_none (H := H) (g := g) (rb := rb) (s := s) oa w1 hB1 hi)
      have HP := Lib.hid (fun (w' : World) (h2 : Fr No w1 w') => HPOST.out (s, 152) _ w' ⟨rb, rfl, hB1.below h2.to, h2.mono (fun _ _ q => q.elim), .inl rfl⟩)
      clear hA hd hH hB hok hB1 hA1 hH1 hw1 hF1 HPOST
      generalize data.length = dl at *
      go_enter Try.func19, Try.ntmps19
      go_wp2_with fail
      rw [HW.out]
      refine HC.out.mono ?_
      rintro e w2 ⟨rfl, h2⟩
      have H1 := Lib.hid (HP.out _ (h2.then_ ((Fr.refl _ w2).alloc (.cells #[.int .i64 0, .int .i64 0, .int .i64 0, .int .i64 0, .int .i64 0, .slice none 0 0] 31 (0, 0)))))
      clear h2 HP
      go_wp2
      go_ret
      obtain ⟨rb', _, h⟩ := H1.out
      exact ⟨rb', rfl, h⟩
  rw [if_neg k1]
  have b1 : (kind == 1) = false := by simpa using k1
  by_cases k2 : kind = 2
  · rw [if_pos k2]
    subst k2
    have HC := Lib.hid ((bDup (H := H) (g := g) (rb := rb) (s := s) oa w1 hB1 hok.room1 hok.laid0 (by omega)).mono fun e w' h => HPOST.out _ e w' h)
    clear hA hd hH hB hok hB1 hA1 hH1 hw1 hF1 HPOST
    generalize dupS s oa = z at *
    obtain ⟨z1, z2⟩ := z
    dsimp only at *
    generalize data.length = dl at *
    go_enter Try.func19, Try.ntmps19
    go_wp2_with fail
    rw [HW.out]
    refine HC.out.mono ?_
    rintro e w2 ⟨rb', rfl, h1, h2, h3⟩
    have H1 := Lib.hid h1
    have H2 := Lib.hid h2
    have H3 := Lib.hid h3
    clear h1 h2 h3
    go_wp2
    go_ret
    exact ⟨rb', rfl, H1.out, H2.out, H3.out⟩
  rw [if_neg k2]
  have b2 : (kind == 2) = false := by simpa using k2
  by_cases k3 : kind = 3
  · rw [if_pos k3]
    subst k3
    have HC := Lib.hid ((bFlip (H := H) (g := g) (rb := rb) (s := s) oa ob oy w1 hB1 hok.small hH1).mono fun e w' h => HPOST.out _ e w' ⟨rb, h.1, h.2.1, h.2.2, .inl rfl⟩)
    clear hA hd hH hB hok hB1 hA1 hH1 hw1 hF1 HPOST
    generalize flipS s oa ob oy = z at *
    obtain ⟨z1, z2⟩ := z
    dsimp only at *
    generalize data.length = dl at *
    go_enter Try.func19, Try.ntmps19
    go_wp2_with fail
    rw [HW.out]
    refine HC.out.mono ?_
    rintro e w2 ⟨rb', rfl, h1, h2, h3⟩
    have H1 := Lib.hid h1
    have H2 := Lib.hid h2
    have H3 := Lib.hid h3
    clear h1 h2 h3
    go_wp2
    go_ret
    exact ⟨rb', rfl, H1.out, H2.out, H3.out⟩
  rw [if_neg k3]
  have b3 : (kind == 3) = false := by simpa using k3
  by_cases k4 : kind = 4
  · rw [if_pos k4]
    subst k4
    have HC := Lib.hid ((bOlder (H := H) (g := g) (rb := rb) (s := s) w1 hB1 (by have := hok.lenN; omega) (fun p hp => by have := hok.pk p hp; omega)))
    have HP := Lib.hid (fun (w' : World) (h1 : Bag H w' g rb (olderS s)) (h2 : Fr (Sg g rb) w1 w') => HPOST.out (olderS s, 0) _ w' ⟨rb, rfl, h1, h2, .inl rfl⟩)
    clear hA hd hH hB hok hB1 hA1 hH1 hw1 hF1 HPOST
    generalize olderS s = z at *
    dsimp only at *
    generalize data.length = dl at *
    go_enter Try.func19, Try.ntmps19
    go_wp2_with fail
    rw [HW.out]
    refine HC.out.mono ?_
    rintro e w2 ⟨rfl, h1, h2⟩
    have H1 := Lib.hid (HP.out w2 h1 h2)
    clear h1 h2
    go_wp2
    go_ret
    obtain ⟨rb', _, h⟩ := H1.out
    exact ⟨rb', rfl, h⟩
  · rw [if_neg k4]
    have b4 : (kind == 4) = false := by simpa using k4
    have HB := Lib.hid hB1
    clear hA hd hH hB hok hB1 hA1 hH1 hw1 hF1 HPOST
    generalize data.length = dl at *
    go_enter Try.func19, Try.ntmps19
    go_wp2
    go_ret
    rw [HW.out]
    exact ⟨rb, rfl, HB.out, HF1.out.mono (fun _ _ q => q.elim), .inl rfl⟩
end Go.Proofs.Ytilpffolldegbaa.Bg
