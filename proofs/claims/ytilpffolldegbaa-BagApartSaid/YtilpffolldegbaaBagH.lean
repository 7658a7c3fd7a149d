/- A bag's calls: Older, List. Conditions: none. -/
import Derived.Test.YtilpffolldegbaaBagG
namespace Go.Proofs.Ytilpffolldegbaa.Bg
open Go.RowKit Go.Proofs.Ytilpffolldegbaa.Mem
set_option linter.unusedVariables false
set_option linter.unusedSimpArgs false

set_option maxHeartbeats 400000 in
theorem bOlder {H : Nat → Prop} {g : Nat} {rb : Option Nat} {s : St} (w : World) (hB : Bag H w g rb s) (hn : s.ps.length ≤ 2147483648) (hage : ∀ p ∈ s.ps, -4611686018427387904 ≤ p.age ∧ p.age ≤ 4611686018427387904) :
    Calls Try.prog 39 #[.pointer (some ⟨g, 0, none⟩)] w fun e w' => e = .returned (.tuple #[]) ∧ Bag H w' g rb (olderS s) ∧ Fr (Sg g rb) w w' := by
  obtain ⟨room, laid, ps⟩ := s
  obtain ⟨v, hg, hp⟩ := hB
  obtain ⟨A, c, rfl, hc⟩ := hp.val
  dsimp only at *
  obtain ⟨g0, g1, g2, gf⟩ := hg.three
  have HG := Lib.hid hg
  have HP := Lib.hid hp
  have HAGE := Lib.hid hage
  obtain ⟨n, hn'⟩ : ∃ n, ps.length = n := ⟨_, rfl⟩
  have HN := Lib.hid hn'
  rw [hn'] at g2 hn HG HP
  clear hg hp hage hc hn' 
  go_enter Try.func39, Try.ntmps39
  go_wp2
  go_loopw [8] (fun i wr => ∃ k : Nat, k ≤ n ∧ i = .int .i64 k ∧ Hid (Bk wr g 76 [.int .i64 room, .int .i64 laid, .slice A n c]) ∧ Hid (PR H wr rb (.slice A n c) (agedTo ps k)) ∧ Fr (Sg g rb) w wr) (fun i _ => n - (intOf i).toNat)
  case atStart => exact ⟨0, Nat.zero_le _, rfl, HG, by show PR _ _ _ _ _; simpa [agedTo] using HP.out, Fr.refl _ _⟩
  case round =>
    clear HG HP g0 g1 g2 gf
    obtain ⟨k, hk, rfl, HG, HP, hF⟩ := hrel
    by_cases hlt : k < n
    · have hkp : k < ps.length := by rw [HN.out]; exact hlt
      have hP := HP.out
      obtain ⟨r, c', A', cap, hr, hv, _, hl, hA, x0, x1, x2, x3, x4, x5, xf⟩ := hP.at_ k (by rw [agedTo_len]; exact hkp)
      rw [agedTo_get ps k hkp] at x3
      have ha := HAGE.out ps[k] (List.getElem_mem _)
      have hw1 : IntKind.i64.wrap (ps[k].age + 1) = ps[k].age + 1 := IntWalk.i64_in _ (by omega)
      subst hr
      rw [agedTo_len, HN.out] at hv
      injection hv with e1 _ e3
      subst e1 e3
      obtain ⟨g0, g1, g2, gf⟩ := HG.out.three
      have hrg : ¬ g = r := fun e => (HG.out.bt.ne (hP.bt rfl) (by decide)) e
      have hG2 := HG.out.far (p := ⟨r, k * 6 + 3, none⟩) hrg (.int .i64 (ps[k].age + 1))
      have hP2 : PR H (wr.setCell ⟨r, k * 6 + 3, none⟩ (.int .i64 (ps[k].age + 1))) (some r) (.slice (some ⟨r, 0, none⟩) n c) (agedTo ps (k + 1)) := by
        rw [← agedTo_succ ps k hkp]
        have hl2 : (agedTo ps k).length = n := by rw [agedTo_len, HN.out]
        have := PR.field (H := H) (w := wr) (r := r) (c := c) (ps := agedTo ps k) (by rw [hl2]; exact hP) k (by rw [agedTo_len]; exact hkp) 3 (by omega) (.int .i64 (ps[k].age + 1)) ps[k].old (by
          rw [agedTo_get ps k hkp]
          intro A2 cap2 hl3 hA3
          exact ⟨A2, cap2, rfl, hl3, hA3.frT (S := fun q => q = r) ((Fr.refl (fun q => q = r) wr).set (p := ⟨r, k * 6 + 3, none⟩) (.inl rfl) _) (fun q hq h8 => by subst hq; exact absurd rfl ((hP.bt rfl).ne h8 (by decide)))⟩)
        rw [hl2] at this
        exact this
      have hF2 : Fr (Sg g (some r)) w (wr.setCell ⟨r, k * 6 + 3, none⟩ (.int .i64 (ps[k].age + 1))) := hF.set (p := ⟨r, k * 6 + 3, none⟩) (.inl (.inr rfl)) _
      have HG2 := Lib.hid hG2
      have HP2 := Lib.hid hP2
      have hki : (k : Int) < (n : Int) := by omega
      have hwk : IntKind.i64.wrap ((k : Int) + 1) = (k : Int) + 1 := IntWalk.i64_in _ (by omega)
      clear hA hl hP hG2 hP2 HP HG hF
      go_wp2
      go_roundw
      case rel => exact ⟨k + 1, by omega, by go_num, HG2, HP2, hF2⟩
      case measure => simp [intOf]; omega
    · obtain rfl : k = n := by omega
      have HFIN : Hid (Bag H wr g rb (olderS ⟨room, laid, ps⟩)) := by
        refine ⟨_, HG.out, ?_⟩
        have := HP.out
        unfold agedTo at this
        rw [← HN.out, List.take_length, List.drop_length, List.append_nil] at this
        rw [← HN.out]
        exact this
      clear HG HP
      go_wp2
      go_end0
      exact ⟨rfl, HFIN.out, hF⟩

/-- the packets, each with bytes of its own -/
def Small (s : St) : Prop := ∀ p ∈ s.ps, p.data.length ≤ 140737488355328
set_option maxHeartbeats 800000 in
theorem bList {H : Nat → Prop} {g : Nat} {rb : Option Nat} {s : St} (w : World) (hB : Bag H w g rb s) (hn : s.ps.length ≤ 2147483648) (hs : Small s) (hH : ∀ k, w.heap.size ≤ k → ¬ H k) :
    Calls Try.prog 18 #[.pointer (some ⟨g, 0, none⟩)] w fun e w' => ∃ A c rb', e = .returned (.slice A s.ps.length c) ∧ PR H w' rb' (.slice A s.ps.length c) s.ps ∧ Fr No w w' ∧ (∀ k, rb' = some k → w.heap.size ≤ k) := by
  obtain ⟨room, laid, ps⟩ := s
  have HB := Lib.hid hB
  obtain ⟨v, hg, hp⟩ := hB
  obtain ⟨A, c, rfl, hc⟩ := hp.val
  dsimp only at *
  obtain ⟨g0, g1, g2, gf⟩ := hg.three
  have HG := Lib.hid hg
  have HP := Lib.hid hp
  have HSM := Lib.hid (show ∀ p ∈ ps, p.data.length ≤ 140737488355328 from hs)
  have HH := Lib.hid hH
  obtain ⟨n, hn'⟩ : ∃ n, ps.length = n := ⟨_, rfl⟩
  have HN := Lib.hid hn'
  rw [hn'] at g2 hn HG HP ⊢
  clear hg hp hs hH hc hn' HB
  go_enter Try.func18, Try.ntmps18
  go_wp2
  go_loopw [11, 3] (fun i v wr => ∃ (k : Nat) (A' : Option Addr) (c' : Nat) (rbo : Option Nat), k ≤ n ∧ i = .int .i64 k ∧ v = .slice A' k c' ∧ Hid (PR H wr rbo (.slice A' k c') (ps.take k)) ∧ Hid (∀ q, rbo = some q → w.heap.size ≤ q) ∧ Hid (Fr No w wr)) (fun i _ _ => n - (intOf i).toNat)
  case atStart => exact ⟨0, none, 0, none, Nat.zero_le _, rfl, rfl, by show PR _ _ _ _ _; rw [List.take_zero]; exact PR.nil _ _, (fun q h => by cases h), Fr.refl _ _⟩
  case round =>
    clear g0 g1 g2 gf
    obtain ⟨k, A', c', rbo, hk, rfl, rfl, HO, HRB, HF⟩ := hrel
    by_cases hlt : k < n
    · have hkp : k < ps.length := by rw [HN.out]; exact hlt
      have hP := HP.out.fr HF.out (fun _ _ q => q) (fun _ q => q.elim)
      obtain ⟨r, c2, A2, cap, hr, hv, _, hl, hA, x0, x1, x2, x3, x4, x5, xf⟩ := hP.at_ k hkp
      have hsm := HSM.out ps[k] (List.getElem_mem _)
      have HTK := Lib.hid (List.take_succ_eq_append_getElem hkp)
      rw [HN.out] at hv
      injection hv with e1 _ e3
      subst e1 e3
      generalize ps[k] = p at *
      obtain ⟨num, fr, to, age, turned, data⟩ := p
      dsimp only at *
      obtain ⟨w1, hw1⟩ : ∃ w1, wr.alloc (.cells #[.int .i64 num, .int .i64 fr, .int .i64 to, .int .i64 age, .int .i64 turned, .slice A2 data.length cap] 31 (0, 0)) = w1 := ⟨_, rfl⟩
      have hF1 : Fr No wr w1 := by rw [← hw1]; exact (Fr.refl _ _).alloc _
      have HX := Lib.hid (show Bk w1 wr.heap.size 31 [.int .i64 num, .int .i64 fr, .int .i64 to, .int .i64 age, .int .i64 turned, .slice A2 data.length cap] by rw [← hw1]; exact Bk.new _ _ _)
      have hsz : w.heap.size ≤ wr.heap.size := HF.out.size
      have HT := Lib.hid (btold (H := H) ⟨num, fr, to, age, turned, data⟩ A2 cap w1 hl hsm (hA.frT hF1 (fun _ q => q.elim)) (fun q hq => HH.out q (by have := hF1.size; omega)))
      unfold Pk.cells at HT
      dsimp only at HT
      have HF1 := Lib.hid hF1
      have HW1 := Lib.hid hw1
      have hki : (k : Int) < (n : Int) := by omega
      have hwk : IntKind.i64.wrap ((k : Int) + 1) = (k : Int) + 1 := IntWalk.i64_in _ (by omega)
      clear hA hl hP hw1 hF1 hr
      go_wp2_with fail
      rw [HW1.out]
      refine HT.out.mono ?_
      rintro e w2 ⟨b, rfl, hb, hk2, hF2⟩
      have HF2 := Lib.hid (HF1.out.then_ hF2)
      have hBT := hk2
      have HK2 := Lib.hid hk2
      have HO2 := Lib.hid (HO.out.fr HF2.out (fun _ _ q => q) (fun _ q => q.elim))
      clear HT hF2 hBT hk2 HO HW1 HX x0 x1 x2 x3 x4 x5 xf
      obtain ⟨ch, hrow, hall⟩ := HO2.out
      have hF3 : Fr No w2 (w2.alloc (.cells #[.int .i64 num, .int .i64 fr, .int .i64 to, .int .i64 age, .int .i64 turned, .slice (some ⟨b, 0, none⟩) data.length data.length] 31 (0, 0))) := (Fr.refl _ _).alloc _
      have HROW := Lib.hid (hrow.fr hF3 (fun _ _ q => q))
      rw [List.length_take, HN.out, Nat.min_eq_left hk] at HROW
      have HALL := Lib.hid hall
      have HF3 := Lib.hid hF3
      have HNEW := Lib.hid (fun (_ : 0 < 1) => show ∃ ad, some (⟨w2.heap.size, 0, none⟩ : Addr) = some ad ∧ ∀ (j : Nat) (u : Value), [Value.int .i64 num, .int .i64 fr, .int .i64 to, .int .i64 age, .int .i64 turned, .slice (some ⟨b, 0, none⟩) data.length data.length][j]? = some u →
        (w2.alloc (.cells #[.int .i64 num, .int .i64 fr, .int .i64 to, .int .i64 age, .int .i64 turned, .slice (some ⟨b, 0, none⟩) data.length data.length] 31 (0, 0))).cell? (ad.add j) = some u from
        ⟨_, rfl, fun j u hj => by rw [add0]; exact ((Bk.new w2 31 [Value.int .i64 num, .int .i64 fr, .int .i64 to, .int .i64 age, .int .i64 turned, .slice (some ⟨b, 0, none⟩) data.length data.length]).cell j).trans hj⟩)
      have HONE := Lib.hid (show ∀ u ∈ [Value.int .i64 num, .int .i64 fr, .int .i64 to, .int .i64 age, .int .i64 turned, .slice (some ⟨b, 0, none⟩) data.length data.length], u.oneCell' = true by simp [Value.oneCell'])
      have hs12 : w1.heap.size ≤ b := hb
      have hs01 : wr.heap.size ≤ w1.heap.size := HF1.out.size
      clear hrow hall hF3 HO2
      go_wp2_with (at_builtin; refine wl_append _ rfl (.tmp 15) (.tmp 18) 45 rfl 31 _ 6 64 Try.underlying45 infoPk rfl (by decide) rbo _ k ch.flatten rfl HROW.out (some ⟨w2.heap.size, 0, none⟩) 1 1 _ rfl rfl HNEW.out HONE.out (by unfold maxLen; omega) (by omega) ?_; intro A3 c3 w3 rb3 hrow3 hF4 hnb3)
      have HP3 : Hid (PR H w3 rb3 (.slice A3 (k + 1) c3) (ps.take (k + 1))) := by
        have h8 : ∀ q, rbo = some q → BT (w2.alloc (.cells #[.int .i64 num, .int .i64 fr, .int .i64 to, .int .i64 age, .int .i64 turned, .slice (some ⟨b, 0, none⟩) data.length data.length] 31 (0, 0))) q 5 → H q := fun q hq h8 => absurd rfl ((HROW.out.bt hq).ne h8 (by decide))
        refine ⟨ch ++ [[Value.int .i64 num, .int .i64 fr, .int .i64 to, .int .i64 age, .int .i64 turned, .slice (some ⟨b, 0, none⟩) data.length data.length]], ?_, ?_⟩
        · rw [List.length_take, HN.out, Nat.min_eq_left (by omega), List.flatten_append]
          simpa using hrow3
        · rw [HTK.out]
          refine (HALL.out.imp (fun p cs h => (h.fr0 HF3.out).fr hF4 h8)).append (All2.one ⟨_, _, rfl, Nat.le_refl _, ?_⟩)
          have hk3 := HK2.out.fr HF3.out id
          refine BR.frT (w := w2.alloc (.cells #[.int .i64 num, .int .i64 fr, .int .i64 to, .int .i64 age, .int .i64 turned, .slice (some ⟨b, 0, none⟩) data.length data.length] 31 (0, 0))) (BR.of_block hk3 ⟨hk3.bt, HH.out _ (by omega)⟩) hF4 h8
      have HRB3 : Hid (∀ q, rb3 = some q → w.heap.size ≤ q) := fun q hq => by
        rcases hnb3 with h | ⟨q', h, hle⟩
        · exact HRB.out q (by rw [← h]; exact hq)
        · rw [h] at hq
          cases hq
          have h1 := HF3.out.size
          have h2 := HF2.out.size
          omega
      have HF4 : Hid (Fr No w w3) := by
        refine Fr.trans ((HF.out.then_ HF2.out).then_ HF3.out) hF4 (fun q hq h => ?_)
        have := HRB.out q h
        omega
      clear hrow3 hF4 hnb3 HF HF1 HF2 HF3 HROW HALL HNEW HONE HK2 HRB
      go_wp2
      go_roundw
      case rel => exact ⟨k + 1, A3, c3, rb3, by omega, by go_num, rfl, HP3, HRB3, HF4⟩
      case measure => simp [intOf]; omega
    · obtain rfl : k = n := by omega
      have HFIN := Lib.hid (show PR H wr rbo (.slice A' k c') ps by have := HO.out; rwa [← HN.out, List.take_length, HN.out] at this)
      clear HO
      go_wp2
      go_ret
      exact ⟨A', c', rbo, rfl, HFIN.out, HF.out, HRB.out⟩
end Go.Proofs.Ytilpffolldegbaa.Bg
