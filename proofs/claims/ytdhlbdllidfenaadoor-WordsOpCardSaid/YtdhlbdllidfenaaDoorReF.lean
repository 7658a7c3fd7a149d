/- Words: what the document's ReadResult answers: walked. Conditions: none. -/
import Derived.Test.YtdhlbdllidfenaaDoorReE
import Derived.Test.YtdhlbdllidfenaaDoorReD
namespace Go.Proofs.YtdhlbdllidfenaaDoor.Wd
open Go.RowKit Go.Proofs.YtdhlbdllidfenaaDoor.Mem
open Go.Proofs.YtdhlbdllidfenaaDoor.Nu (numL numE wNumber rNumber Vs num_dec num_is)
set_option linter.unusedVariables false
set_option linter.unusedSimpArgs false
theorem rnumber_none {a : List UInt8} {p : ByteArray} (hp : (⟨a.toArray⟩ : ByteArray) = p) (ha : a.length ≤ 140737488351232) (h : numL a = none) (W : World) : Calls Tryd.prog 9 #[.string p] W fun e w' => e = .returned (.tuple #[.int .i64 0, .bool false]) ∧ Fr No W w' := by
  have hs := sv_size hp
  have h1 := rNumber p (by omega) W
  rw [← hp, Nu.bs_of] at h1
  rw [← hp]
  unfold numE at h1
  rw [h] at h1
  exact h1
theorem rnumber_some {a : List UInt8} {p : ByteArray} {n : Nat} (hp : (⟨a.toArray⟩ : ByteArray) = p) (ha : a.length ≤ 140737488351232) (h : numL a = some n) (W : World) : Calls Tryd.prog 9 #[.string p] W fun e w' => e = .returned (.tuple #[.int .i64 (n : Int), .bool true]) ∧ Fr No W w' := by
  have hs := sv_size hp
  have h1 := rNumber p (by omega) W
  rw [← hp, Nu.bs_of] at h1
  rw [← hp]
  unfold numE at h1
  rw [h] at h1
  exact h1
theorem codeAt {u : List UInt8} {p : ByteArray} (hp : (⟨u.toArray⟩ : ByteArray) = p) (g : Nat) (W : World) (hB : Bk W g 9 (codesL.map sv)) : Calls Tryd.prog 37 #[.slice (some ⟨g, 0, none⟩) 5 5, .int .i64 0, .string p] W fun e w' => e = .returned (.int .i64 (idxL codesL 0 u)) ∧ Fr No W w' := by
  subst hp
  exact rIndex (some ⟨g, 0, none⟩) 5 5 0 codesL u rfl (by omega) (by omega) W (Bk.texts hB Any trivial)
set_option maxHeartbeats 8000000 in
set_option maxRecDepth 100000 in
theorem rReadR (A : Option Addr) (n c : Nat) (l : List (List UInt8)) (hl : l.length = n) (hlc : n ≤ c) (hn : n ≤ 8796093022000) (hx : ∀ x ∈ l, x.length ≤ 140737488351232) (w : World) (hT : TR Any w A l) :
    Calls Tryd.prog 19 #[.slice A n c] w (Rd w (readR l)) := by
  have HT := Lib.hid hT
  have HL := Lib.hid hl
  have HX := Lib.hid hx
  clear hT hx
  match l, hl with
  | [], hl =>
    obtain rfl : n = 0 := hl.symm
    go_enter Tryd.func19, Tryd.ntmps19
    go_wp2
    refine bodyPost_ret (v := .tuple #[.agg #[.int .i64 0, .int .i64 0, .slice none 0 0], .int .i64 0, .int .i64 162]) (by simp [results, Tryd.results19, go_sem]) rfl ⟨none, 0, none, rfl, ?_⟩
    refine TBuf.nil_ ?_
    repeat (refine Fr.set ?_ (.inr (by simp)) _)
    exact (Fr.refl _ _).alloc _
  | u :: r, hl =>
    have hn0 : 0 < n := by rw [← hl]; simp
    have hn0i : (0 : Int) < (n : Int) := by omega
    have hne : ((n : Int) == 0) = false := by rw [beq_eq_false_iff_ne]; omega
    obtain ⟨ad, hA, hc0⟩ := HT.out.at_ 0 (by simp)
    subst hA
    obtain ⟨p0, hp0⟩ : ∃ p0 : ByteArray, (⟨u.toArray⟩ : ByteArray) = p0 := ⟨_, rfl⟩
    have HP0 := Lib.hid hp0
    have hc0 : w.cell? ad = some (.string p0) := by have h := hc0; rw [← hp0]; exact h
    obtain ⟨w2, hw2⟩ : ∃ w2, w.alloc (.cells #[.int .i64 0, .int .i64 0, .slice none 0 0] 28 (0, 0)) = w2 := ⟨_, rfl⟩
    have hF2 : Fr No w w2 := by rw [← hw2]; exact (Fr.refl _ _).alloc _
    have HF2 := Lib.hid hF2
    have HZ2 := Lib.hid (show Bk w2 w.heap.size 28 [.int .i64 0, .int .i64 0, .slice none 0 0] by rw [← hw2]; exact Bk.new w 28 [.int .i64 0, .int .i64 0, .slice none 0 0])
    have ca0 := keepC hF2 hc0 id
    have HW2 := Lib.hid hw2
    clear hl hp0 hF2 hw2 hc0
    go_enter Tryd.func19, Tryd.ntmps19
    go_upto_region 3 with (fail)
    rw [HW2.out]
    go_region_law (first | (go_simp; go_at_call 35; refine (rCodes2 _).mono ?_; rintro e w3 ⟨g3, rfl, hB3, hF3⟩; have hF3 : Fr No w2 w3 := ((Fr.refl No _).drew).then_ hF3; have cb0 := keepC hF3 ca0 id) | (go_simp; go_at_call 37; refine (codeAt HP0.out g3 _ hB3).mono ?_; rintro e w4 ⟨rfl, hF4⟩))
    all_goals
      have HF4 := Lib.hid ((HF2.out.then_ hF3).then_ hF4)
      have HZ4 := Lib.hid ((HZ2.out.fr hF3 id).fr hF4 id)
      clear hF3 hF4 hB3 cb0 ca0
      rcases idx_codes u with ⟨hi, hno⟩ | ⟨j, hj5, hi, hju⟩
      · have HR := Lib.hid (read_neg (r := r) hi)
        obtain ⟨z0, z1, z2, zf⟩ := HZ4.out.three
        rw [hi]
        clear hi hno
        go_wp2
        refine bodyPost_ret (v := .tuple #[.agg #[.int .i64 0, .int .i64 0, .slice none 0 0], .int .i64 0, .int .i64 163]) (by simp [results, Tryd.results19, go_sem, z0, z1, z2, zf]) rfl ⟨none, 0, none, by rw [HR.out]; rfl, ?_⟩
        rw [HR.out]
        refine TBuf.nil_ ?_
        repeat (refine Fr.set ?_ (.inr (by simp)) _)
        exact HF4.out
      · by_cases hj0 : j = 0
        · subst hj0
          have hi : idxL codesL 0 u = 0 := hi
          have HI := Lib.hid hi
          rw [hi]
          clear hi hju
          match r, HL, HT, HX with
          | [], HL, HT, HX =>
            obtain rfl : n = 1 := HL.out.symm
            have HR := Lib.hid (read_one HI.out)
            obtain ⟨z0, z1, z2, zf⟩ := HZ4.out.three
            go_wp2
            refine bodyPost_ret (v := .tuple #[.agg #[.int .i64 0, .int .i64 0, .slice none 0 0], .int .i64 0, .int .i64 162]) (by simp [results, Tryd.results19, go_sem, z0, z1, z2, zf]) rfl ⟨none, 0, none, by rw [HR.out]; rfl, ?_⟩
            rw [HR.out]
            refine TBuf.nil_ ?_
            repeat (refine Fr.set ?_ (.inr (by simp)) _)
            exact HF4.out
          | a :: r2, HL, HT, HX =>
            have hnl : r2.length + 2 = n := by rw [← HL.out]; simp
            have d2 : decide ((n : Int) < 2) = false := decide_eq_false (by omega)
            have d2' : decide (n < 2) = false := decide_eq_false (by omega)
            have h1n : (1 : Int) < (n : Int) := by omega
            have h1n' : 1 < n := by omega
            obtain ⟨pa, hpa⟩ : ∃ pa : ByteArray, (⟨a.toArray⟩ : ByteArray) = pa := ⟨_, rfl⟩
            have HPA := Lib.hid hpa
            obtain ⟨ad', hA', hc1⟩ := HT.out.at_ 1 (by simp)
            cases hA'
            have hc1 : w.cell? (ad.add 1) = some (.string pa) := by rw [hc1, ← hpa]; rfl
            have hc14 : w4.cell? ⟨ad.block, ad.off + 1, none⟩ = some (.string pa) := by have h := keepC HF4.out hc1 id; rw [← h]; rfl
            have HAL := Lib.hid (HX.out a (by simp))
            clear hpa
            rcases hna : numL a with _ | n1
            · have HR := Lib.hid (read_anone (r := r2) HI.out hna)
              have HNU := Lib.hid (fun W => rnumber_none HPA.out HAL.out hna W)
              clear hna
              go_wp2_with fail
              refine (HNU.out _).mono ?_
              rintro e w5 ⟨rfl, hF5⟩
              have HF5 := Lib.hid (HF4.out.then_ hF5)
              obtain ⟨z0, z1, z2, zf⟩ := (HZ4.out.fr hF5 id).three
              clear hF5 hc14
              go_wp2
              refine bodyPost_ret (v := .tuple #[.agg #[.int .i64 0, .int .i64 0, .slice none 0 0], .int .i64 0, .int .i64 163]) (by simp [results, Tryd.results19, go_sem, z0, z1, z2, zf]) rfl ⟨none, 0, none, by rw [HR.out]; rfl, ?_⟩
              rw [HR.out]
              refine TBuf.nil_ ?_
              repeat (refine Fr.set ?_ (.inr (by simp)) _)
              exact HF5.out
            · have HNU := Lib.hid (fun W => rnumber_some HPA.out HAL.out hna W)
              have HNA := Lib.hid hna
              clear hna
              go_wp2_with fail
              refine (HNU.out _).mono ?_
              rintro e w5 ⟨rfl, hF5⟩
              have HF5 := Lib.hid (HF4.out.then_ hF5)
              have HZ5 := Lib.hid (HZ4.out.fr hF5 id)
              clear hF5 hc14
              match r2, hnl, HL, HT, HX with
              | [], hnl, HL, HT, HX =>
                obtain rfl : n = 2 := hnl.symm
                have HR := Lib.hid (read_two HI.out HNA.out)
                obtain ⟨z0, z1, z2, zf⟩ := HZ5.out.three
                clear d2 d2'
                go_wp2
                refine bodyPost_ret (v := .tuple #[.agg #[.int .i64 0, .int .i64 0, .slice none 0 0], .int .i64 0, .int .i64 162]) (by simp [results, Tryd.results19, go_sem, z0, z1, z2, zf]) rfl ⟨none, 0, none, by rw [HR.out]; rfl, ?_⟩
                rw [HR.out]
                refine TBuf.nil_ ?_
                repeat (refine Fr.set ?_ (.inr (by simp)) _)
                exact HF5.out
              | b :: r3, hnl, HL, HT, HX =>
                have hnl : r3.length + 3 = n := by rw [← hnl]; simp
                have d3 : decide ((n : Int) < 3) = false := decide_eq_false (by omega)
                have d3' : decide (n < 3) = false := decide_eq_false (by omega)
                have h2n : (2 : Int) < (n : Int) := by omega
                have h2n' : 2 < n := by omega
                obtain ⟨pb, hpb⟩ : ∃ pb : ByteArray, (⟨b.toArray⟩ : ByteArray) = pb := ⟨_, rfl⟩
                have HPB := Lib.hid hpb
                obtain ⟨ad', hA', hc2⟩ := HT.out.at_ 2 (by simp)
                cases hA'
                have hc2 : w.cell? (ad.add 2) = some (.string pb) := by rw [hc2, ← hpb]; rfl
                have hc25 : w5.cell? ⟨ad.block, ad.off + 2, none⟩ = some (.string pb) := by have h := keepC HF5.out hc2 id; rw [← h]; rfl
                have HBL := Lib.hid (HX.out b (by simp))
                clear hpb hc2
                rcases hnb2 : numL b with _ | m
                · have HR := Lib.hid (read_bnone (r := r3) HI.out HNA.out hnb2)
                  have HNU2 := Lib.hid (fun W => rnumber_none HPB.out HBL.out hnb2 W)
                  clear hnb2
                  go_wp2_with fail
                  refine (HNU2.out _).mono ?_
                  rintro e w6 ⟨rfl, hF6⟩
                  have HF6 := Lib.hid (HF5.out.then_ hF6)
                  obtain ⟨z0, z1, z2, zf⟩ := (HZ5.out.fr hF6 id).three
                  clear hF6 hc25
                  go_wp2
                  refine bodyPost_ret (v := .tuple #[.agg #[.int .i64 0, .int .i64 0, .slice none 0 0], .int .i64 0, .int .i64 163]) (by simp [results, Tryd.results19, go_sem, z0, z1, z2, zf]) rfl ⟨none, 0, none, by rw [HR.out]; rfl, ?_⟩
                  rw [HR.out]
                  refine TBuf.nil_ ?_
                  repeat (refine Fr.set ?_ (.inr (by simp)) _)
                  exact HF6.out
                · have HRF := Lib.hid (read_full (r := r3) HI.out HNA.out hnb2)
                  have HNU2 := Lib.hid (fun W => rnumber_some HPB.out HBL.out hnb2 W)
                  have hmb : m ≤ 9223372036854775807 := (Nu.num_some hnb2).2.2
                  clear hnb2
                  go_wp2_with fail
                  refine (HNU2.out _).mono ?_
                  rintro e w6 ⟨rfl, hF6⟩
                  have HF6 := Lib.hid (HF5.out.then_ hF6)
                  have HZ6 := Lib.hid (HZ5.out.fr hF6 id)
                  clear hF6 hc25
                  have hwq : IntKind.i64.wrap ((n : Int) - 3) = (r3.length : Int) := by rw [IntWalk.i64_in _ (by omega)]; omega
                  by_cases hfew : r3.length < m
                  · have HR := Lib.hid (show readR (u :: a :: b :: r3) = (rv0, 0, 162) by rw [HRF.out, if_pos hfew])
                    have e5 : decide ((r3.length : Int) < (m : Int)) = true := decide_eq_true (by omega)
                    have e5' : decide (r3.length < m) = true := decide_eq_true hfew
                    obtain ⟨z0, z1, z2, zf⟩ := HZ6.out.three
                    clear HRF
                    go_wp2
                    refine bodyPost_ret (v := .tuple #[.agg #[.int .i64 0, .int .i64 0, .slice none 0 0], .int .i64 0, .int .i64 162]) (by simp [results, Tryd.results19, go_sem, z0, z1, z2, zf]) rfl ⟨none, 0, none, by rw [HR.out]; rfl, ?_⟩
                    rw [HR.out]
                    refine TBuf.nil_ ?_
                    repeat (refine Fr.set ?_ (.inr (by simp)) _)
                    exact HF6.out
                  · have e5 : decide ((r3.length : Int) < (m : Int)) = false := decide_eq_false (by omega)
                    have e5' : decide (r3.length < m) = false := decide_eq_false hfew
                    obtain ⟨items, hit⟩ : ∃ items, r3.take m = items := ⟨_, rfl⟩
                    have HIT := Lib.hid (show items.length = m by rw [← hit, List.length_take]; omega)
                    have HRF2 := Lib.hid (show readR (u :: a :: b :: r3) = if chkR ⟨0, (n1 : Int), items⟩ ≠ 0 then (rv0, 0, chkR ⟨0, (n1 : Int), items⟩) else (⟨0, (n1 : Int), items⟩, 3 + m, 0) by rw [HRF.out, if_neg hfew, hit])
                    obtain ⟨t, ht⟩ : ∃ t, 3 + m = t := ⟨_, rfl⟩
                    have hwt : IntKind.i64.wrap (3 + (m : Int)) = (t : Int) := by rw [IntWalk.i64_in _ (by omega)]; omega
                    have h3t : 3 ≤ t := by omega
                    have htc : t ≤ c := by omega
                    have h3ti : (3 : Int) ≤ (t : Int) := by omega
                    have htci : (t : Int) ≤ (c : Int) := by omega
                    have htm : t - 3 = m := by omega
                    have HTT := Lib.hid ht
                    have HPT := Lib.hid (show TR Any w6 (some ⟨ad.block, ad.off + 3, none⟩) items by
                      have h := ((HT.out.fr HF6.out (fun _ _ _ q => q)) : TR Any w6 (some ad) (u :: a :: b :: r3)).part 3 m
                      rw [← hit, show (⟨ad.block, ad.off + 3, none⟩ : Addr) = ad.add 3 from rfl]; exact h)
                    clear HRF ht hit
                    go_wp2_with (at_builtin; refine wl_append _ rfl (.tmp 62) (.tmp 66) 26 rfl 9 _ 1 16 Tryd.underlying26 infoStr rfl (by decide) none _ 0 [] rfl (Row.nil _ _ _) _ m _ (items.map sv) rfl (by rw [List.length_map, HIT.out, Nat.mul_one]) (fun h0 => by first | exact HPT.out.cells (by rw [HIT.out]; exact h0) | (rw [if_neg (show ¬ c = 3 by omega)]; exact HPT.out.cells (by rw [HIT.out]; exact h0))) (sv_one _) (by unfold maxLen; omega) (by omega) ?_; intro A9 c9 w9 rb9 hr9 hF9 hn9; rw [Nat.zero_add, List.nil_append] at hr9; have HF90 := Lib.hid (show Fr No w6 w9 from (hF9.mono (fun _ _ q => by cases q))); have HR9 := Lib.hid hr9; have HN9 := Lib.hid hn9; clear hr9 hF9 hn9)
                    all_goals
                      have HF9 := Lib.hid (HF6.out.then_ HF90.out)
                      have HZ9 := Lib.hid (HZ6.out.fr HF90.out id)
                      have HN10 := Lib.hid (show ∀ k, rb9 = some k → w.heap.size ≤ k from fun k hk => by
                        have h8 := HF6.out.size
                        rcases HN9.out with q | ⟨k', q, hq⟩
                        · rw [q] at hk; cases hk
                        · rw [q] at hk; cases hk; exact Nat.le_trans h8 hq)
                      have HX10 := Lib.hid (Bk.new w9 28 [.int .i64 0, .int .i64 (n1 : Int), .slice A9 m c9])
                      have HCK := Lib.hid (fun W (hW : Fr No w9 W) => rChkR ⟨0, (n1 : Int), items⟩ A9 m c9 HIT.out (by omega) W (Row.tr (D := Any) (HR9.out.fr hW (fun _ _ q => q)) (fun _ _ => trivial)))
                      obtain ⟨rr, hrr⟩ : ∃ rr, chkR ⟨0, (n1 : Int), items⟩ = rr := ⟨_, rfl⟩
                      rw [hrr] at HCK HRF2
                      unfold RV.v at HCK
                      dsimp only at HCK
                      clear hrr HN9 HF90
                      go_wp2_with fail
                      all_goals
                        refine (HCK.out _ ((Fr.refl _ _).alloc _)).mono ?_
                        rintro e w11 ⟨rfl, hF11⟩
                        have hF11 : Fr No w9 w11 := ((Fr.refl No w9).alloc _).then_ hF11
                        have hX11 : Bk w11 w9.heap.size 28 [.int .i64 0, .int .i64 (n1 : Int), .slice A9 m c9] := HX10.out.fr (by assumption) id
                        obtain ⟨s0, s1, s2, sf⟩ := hX11.three
                        have HZ11 := Lib.hid (HZ9.out.fr hF11 id)
                        obtain ⟨z0, z1, z2, zf⟩ := HZ11.out.three
                        have HR11 := Lib.hid (HR9.out.fr hF11 (fun _ _ q => q))
                        have HF11 := Lib.hid (HF9.out.then_ hF11)
                        clear hF11 hX11
                        by_cases hz : rr = 0
                        · subst hz
                          have HR := Lib.hid (show readR (u :: a :: b :: r3) = (⟨0, (n1 : Int), items⟩, 3 + m, 0) by rw [HRF2.out, if_neg (fun q => q rfl)])
                          clear HRF2 HCK
                          go_wp2
                          refine bodyPost_ret (v := .tuple #[.agg #[.int .i64 0, .int .i64 (n1 : Int), .slice A9 m c9], .int .i64 (t : Int), .int .i64 0]) (by simp [results, Tryd.results19, go_sem, z0, z1, z2, zf]) rfl ⟨A9, c9, rb9, ?_, ?_⟩
                          · rw [HR.out]
                            show _ = Ending.returned (.tuple #[.agg #[.int .i64 0, .int .i64 (n1 : Int), .slice A9 items.length c9], .int .i64 ((3 + m : Nat) : Int), .int .i64 0])
                            rw [HIT.out, HTT.out]
                          · rw [HR.out]
                            show TBuf w _ rb9 (.slice A9 items.length c9) items
                            refine ⟨?_, ?_, HN10.out⟩
                            · rw [HIT.out]
                              refine HR11.out.fr (S := fun q => q = w.heap.size) ?_ (fun k hk q => by subst q; exact (HR11.out.bt hk).ne HZ11.out.bt (by decide) rfl)
                              exact (((Fr.refl (fun q => q = w.heap.size) w11).set (p := ⟨w.heap.size, 0, none⟩) (.inl rfl) _).set (p := ⟨w.heap.size, 1, none⟩) (.inl rfl) _).set (p := ⟨w.heap.size, 2, none⟩) (.inl rfl) _
                            · repeat (refine Fr.set ?_ (.inr (by simp)) _)
                              exact HF11.out
                        · have HR := Lib.hid (show readR (u :: a :: b :: r3) = (rv0, 0, rr) by rw [HRF2.out, if_pos hz])
                          have e6 : (rr != 0) = true := by rw [bne_iff_ne]; exact hz
                          clear HRF2 HCK
                          go_wp2
                          refine bodyPost_ret (v := .tuple #[.agg #[.int .i64 0, .int .i64 0, .slice none 0 0], .int .i64 0, .int .i64 rr]) (by simp [results, Tryd.results19, go_sem, z0, z1, z2, zf]) rfl ⟨none, 0, none, by rw [HR.out]; rfl, ?_⟩
                          rw [HR.out]
                          refine TBuf.nil_ ?_
                          repeat (refine Fr.set ?_ (.inr (by simp)) _)
                          exact HF11.out
        · have HR := Lib.hid (read_code (r := r) hi hj0)
          have e1 : decide ((j : Int) < 0) = false := decide_eq_false (by omega)
          have e2 : ((j : Int) != 0) = true := by rw [bne_iff_ne]; omega
          obtain ⟨z0, z1, z2, zf⟩ := HZ4.out.three
          rw [hi]
          clear hi hju
          go_wp2
          refine bodyPost_ret (v := .tuple #[.agg #[.int .i64 (j : Int), .int .i64 0, .slice none 0 0], .int .i64 1, .int .i64 0]) (by simp [results, Tryd.results19, go_sem, z0, z1, z2, zf]) rfl ⟨none, 0, none, by rw [HR.out]; rfl, ?_⟩
          rw [HR.out]
          refine TBuf.nil_ ?_
          repeat (refine Fr.set ?_ (.inr (by simp)) _)
          exact HF4.out
end Go.Proofs.YtdhlbdllidfenaaDoor.Wd
