/- choose.Ready: what a call answers. Conditions: none. -/
import Derived.Test.YtobnehbcnlhchaaTrCW
namespace Go.Proofs.Ytobnehbcnlhchaa.Ch
open Go.RowKit Go.Proofs.YtobnehbcnlhchaaW.PrintWords Go.Proofs.Ytobnehbcnlhchaa.PChooseTurned
set_option linter.unusedVariables false

theorem quiet0 {P : Program} {f : FuncId} {args : Array Value} {w : World} {n : Nat} {v : Value}
    (h : Calls P f args (w.drewN n) fun e w' => e = .returned v ∧ Drawn0 (w.drewN n) w') : Calls P f args (w.drewN n) fun e w'' => e = .returned v ∧ ∃ m, w'' = w.drewN m :=
  Calls.quiet_of (h.mono fun _ _ ⟨a, b⟩ => ⟨a, b.out⟩)
theorem fleet_f (n : Int) : votes_fleet.f n = some (n == 3 || n == 5 || n == 7) := by
  unfold votes_fleet.f
  by_cases h3 : n = 3
  · subst h3; rfl
  by_cases h5 : n = 5
  · subst h5; rfl
  rw [if_neg h3, if_neg h5, beq_eq_false_iff_ne.mpr h3, beq_eq_false_iff_ne.mpr h5]
  simp
theorem major_f (n : Int) : votes_Majority.f n = some (if n == 3 || n == 5 || n == 7 then (n - 1) / 2 + 1 else 0) := by
  unfold votes_Majority.f votes_Faults.f
  rw [fleet_f]
  by_cases h3 : n = 3
  · subst h3; unfold wrap64; decide
  by_cases h5 : n = 5
  · subst h5; unfold wrap64; decide
  by_cases h7 : n = 7
  · subst h7; unfold wrap64; decide
  have e : (n == 3 || n == 5 || n == 7) = false := by simp [h3, h5, h7]
  rw [e]
  rfl
theorem fits_f (n m : Int) : choose_fits.f n m = some (sized n m) := by
  unfold choose_fits.f sized
  rw [major_f]
  simp only [Option.bind_some]
  by_cases e : (n == 3 || n == 5 || n == 7) = true
  · rw [e, if_pos rfl]
    have : n = 3 ∨ n = 5 ∨ n = 7 := by simpa [or_assoc] using e
    rw [if_pos (by omega)]
    by_cases h1 : m ≥ 1
    · rw [if_pos h1, decide_eq_true (show 1 ≤ m from h1)]; simp
    · rw [if_neg h1, decide_eq_false (show ¬ 1 ≤ m from h1)]; simp
  · rw [Bool.not_eq_true] at e
    rw [e]
    simp
theorem prim_f (n u : Int) (hn : n = 3 ∨ n = 5 ∨ n = 7) (hu : 0 ≤ u) : votes_Primary.f n u = some (u % n) := by
  unfold votes_Primary.f
  rw [fleet_f]
  have e : (n == 3 || n == 5 || n == 7) = true := by rcases hn with rfl | rfl | rfl <;> rfl
  rw [e]
  simp only [Option.bind_some, if_true]
  rw [if_neg (by omega), if_neg (by omega), Int.tmod_eq_emod_of_nonneg hu]

theorem ready_size (n me floor : Int) (A : Option Addr) (c : Nat) (l : List S66) (w : World) (h : sized n l.length = false) :
    Calls Try.prog 23 #[.int .i64 n, .int .i64 me, .int .i64 floor, .slice A l.length c] w fun e w' => e = .returned (.tuple #[.int .i64 0, .bool false, .int .i64 120]) ∧ Below w.heap.size w w' := by
  have hf := Lib.hid (fits_f n l.length)
  have hs := Lib.hid h
  clear h
  go_enter Try.func23, Try.ntmps23
  go_wp2_with fail
  refine (choose_fits.calls n l.length false _ (by rw [hf.out, hs.out])).mono ?_
  rintro e w' ⟨rfl, hd⟩
  have hB := hd.below
  clear hd
  go_wp2
  go_ret3
  exact ⟨rfl, hB⟩
theorem ready_me (n me floor : Int) (A : Option Addr) (c : Nat) (l : List S66) (w : World) (h : sized n l.length = true) (hme : me < 0 ∨ n ≤ me) :
    Calls Try.prog 23 #[.int .i64 n, .int .i64 me, .int .i64 floor, .slice A l.length c] w fun e w' => e = .returned (.tuple #[.int .i64 0, .bool false, .int .i64 121]) ∧ Below w.heap.size w w' := by
  have hf := Lib.hid (fits_f n l.length)
  have hs := Lib.hid h
  clear h
  have HM := Lib.hid hme
  clear hme
  go_enter Try.func23, Try.ntmps23
  go_wp2_with fail
  refine (choose_fits.calls n l.length true _ (by rw [hf.out, hs.out])).mono ?_
  rintro e w' ⟨rfl, hd⟩
  have hB := hd.below
  clear hd
  go_wp2_with fail
  have hadd : ∀ (a : Addr) (W : World), Calls Try.prog 56 #[.pointer (some a), .int .i64 n, .int .i64 me] W fun e w' => e = .returned (.bool false) ∧ W = w' := by
    intro a W
    by_cases h0 : me < 0
    · exact add_low _ _ _ _ h0
    · exact add_high _ _ _ _ (by omega) (by have := HM.out; omega)
  refine (hadd _ _).mono ?_
  clear hadd
  rintro e w2 ⟨rfl, rfl⟩
  go_wp2
  go_ret3
  exact ⟨rfl, hB.alloc hB.size _⟩
theorem add_first (b t : Nat) (n : Int) (m : Nat) (w : World) (hn : n ≤ 7) (h : (m : Int) < n) (hb : w.heap[b]? = some (.cells #[.bool false, .bool false, .bool false, .bool false, .bool false, .bool false, .bool false] t (0, 0))) :
    Calls Try.prog 56 #[.pointer (some ⟨b, 0, none⟩), .int .i64 n, .int .i64 m] w fun e w' => e = .returned (.bool true) ∧ w'.heap[b]? = some (.cells (hdv m []) t (0, 0)) ∧ ∀ B, B ≤ b → Below B w w' := by
  refine (add_new b n m w (by omega) h ?_ (Blk.frozen hb m)).mono ?_
  · rw [Blk.cell hb]
    have : m = 0 ∨ m = 1 ∨ m = 2 ∨ m = 3 ∨ m = 4 ∨ m = 5 ∨ m = 6 := by omega
    rcases this with rfl | rfl | rfl | rfl | rfl | rfl | rfl <;> rfl
  · rintro e w' ⟨rfl, rfl⟩
    refine ⟨rfl, ?_, fun B hB => (Below.refl _ _).setCell hB _⟩
    rw [Blk.set hb, hdv_me _ _ (by omega) rfl]
set_option maxHeartbeats 1000000 in
theorem ready_go (n me floor : Int) (A : Option Addr) (c : Nat) (l : List S66) (w : World) (hA : Kd.C k66 w A l.length l) (h : sized n l.length = true) (h0 : 0 ≤ me) (h1 : me < n) :
    Calls Try.prog 23 #[.int .i64 n, .int .i64 me, .int .i64 floor, .slice A l.length c] w fun e w' => RPost n me floor l e ∧ Below w.heap.size w w' := by
  have hf := Lib.hid (fits_f n l.length)
  have hn : n = 3 ∨ n = 5 ∨ n = 7 := by simp [sized] at h; omega
  have hl : 1 ≤ l.length ∧ (l.length : Int) ≤ n := by simp [sized] at h; omega
  have hs := Lib.hid h
  have hC := Lib.hid hA
  clear h hA
  have hn7 : n ≤ 7 := by omega
  have hl1 := hl.1
  have hl2 := hl.2
  have HN := Lib.hid hn
  clear hn hl
  obtain ⟨m, rfl⟩ := Int.eq_ofNat_of_zero_le h0
  clear h0
  go_enter Try.func23, Try.ntmps23
  go_wp2_with fail
  refine (choose_fits.calls n l.length true _ (by rw [hf.out, hs.out])).mono ?_
  rintro e w' ⟨rfl, hd⟩
  have hB := hd.below
  clear hd
  go_wp2_with fail
  refine (add_first w'.heap.size 116 n m _ hn7 h1 (Blk.new _ _)).mono ?_
  rintro e w2 ⟨rfl, hb2, hB2⟩
  have hBb : Below w.heap.size w w2 := (hB.alloc hB.size _).trans (hB2 _ hB.size)
  have hsz := Blk.lt hb2
  have hge := hB.size
  clear hB hB2
  generalize w'.heap.size = b at hb2 hsz hge ⊢
  go_wp2
  go_loopw [28] (fun i wr => ∃ k : Nat, k ≤ l.length ∧ i = .int .i64 k ∧ Hid (allFresh n m (l.take k) (l.drop k) = allFresh n m [] l) ∧ Hid (wr.heap[b]? = some (.cells (hdv m (l.take k)) 116 (0, 0))) ∧ Below w.heap.size w wr) (fun i _ => l.length - (intOf i).toNat)
  case atStart => exact ⟨0, Nat.zero_le _, rfl, rfl, hb2, hBb⟩
  case round =>
    clear hb2 hBb hsz
    obtain ⟨k, hk, rfl, HA, HB, hB⟩ := hrel
    by_cases hlt : k < l.length
    · obtain ⟨ad, ha, g0, g1, g2⟩ := at_T66 (Kd.C_below hC.out hB) (k : Int) (by omega) (by omega)
      subst ha
      simp only [Int.toNat_natCast] at g0 g1 g2
      by_cases hfr : fresh n m (l.take k) (rd_T66 l (k : Int)) = true
      · have HFR := Lib.hid hfr
        clear hfr
        go_wp2_with fail
        refine (add_ok b 116 n m (l.take k) (rd_T66 l (k : Int)) _ hn7 (Blk.alloc HB.out _) HFR.out).mono ?_
        rintro e w3 ⟨rfl, hb3, hB3⟩
        have hB' : Below w.heap.size w w3 := (hB.alloc hB.size _).trans (hB3 _ hge)
        have HA' := Lib.hid (af_yes n m l k hlt HFR.out HA.out)
        have HB' := Lib.hid (show w3.heap[b]? = some (.cells (hdv m (l.take (k + 1))) 116 (0, 0)) by rw [take_at l k hlt]; exact hb3)
        clear hb3 hB3 hB g0 g1 g2
        go_wp2
        go_roundw
        case rel => exact ⟨k + 1, by omega, by go_num, HA', HB', hB'⟩
        case measure => simp [intOf]; omega
      · have HE := Lib.hid (ready_121 n m floor l hs.out (af_no n m l k hlt (by simpa using hfr) HA.out))
        have HFR := Lib.hid (show fresh n m (l.take k) (rd_T66 l (k : Int)) = false by simpa using hfr)
        clear hfr
        go_wp2_with fail
        refine (add_no b 116 n m (l.take k) (rd_T66 l (k : Int)) _ hn7 (Blk.alloc HB.out _) HFR.out).mono ?_
        rintro e w3 ⟨rfl, rfl⟩
        go_wp2
        go_ret3
        exact ⟨by show _ = _; rw [HE.out]; rfl, hB.alloc hB.size _⟩
    · obtain rfl : k = l.length := by omega
      have HF := Lib.hid (af_end n m l HA.out)
      clear HA HB
      go_wp2_with fail
      refine (first16 A c l _ (by omega) (Kd.C_below hC.out hB)).mono ?_
      rintro e w3 ⟨rfl, hb3⟩
      have hB3 : Below w.heap.size w w3 := hB.trans (hb3.mono hB.size)
      clear hb3 hB
      have hml := maxW_lt l l.length 0 0 (by omega) (by omega)
      obtain ⟨ad, ha, g0, g1, g2⟩ := at_T66 (Kd.C_below hC.out hB3) (maxW l 0 0 l.length : Int) (by omega) (by omega)
      subst ha
      simp only [Int.toNat_natCast] at g0 g1 g2
      obtain ⟨u, hu⟩ : ∃ u, latest l = u := ⟨_, rfl⟩
      rw [show (rd_T66 l (maxW l 0 0 l.length : Int)).f1 = u from hu] at g1
      have HU := Lib.hid hu
      clear hu
      obtain ⟨q, hq⟩ : ∃ q, (n - 1) / 2 + 1 = q := ⟨_, rfl⟩
      have HQ := Lib.hid hq
      have hmaj : votes_Majority.f n = some q := by
        rw [major_f, if_pos (by rcases HN.out with h | h | h <;> subst h <;> rfl), hq]
      have HMJ := Lib.hid hmaj
      clear hq hmaj
      go_wp2_with fail
      refine (votes_Majority.calls n q _ HMJ.out).mono ?_
      rintro e w4 ⟨rfl, hd4⟩
      have hB4 : Below w.heap.size w w4 := hB3.trans (hd4.below.mono hB3.size)
      clear hd4 hB3 g0 g1 g2
      by_cases c1 : (l.length : Int) < q
      · have HE := Lib.hid (ready_few n m floor l hs.out (by omega) h1 HF.out (.inl (by rw [HQ.out]; exact c1)))
        go_wp2
        go_ret3
        exact ⟨by show _ = _; rw [HE.out]; rfl, hB4⟩
      by_cases c2 : u < 0
      · have HE := Lib.hid (ready_few n m floor l hs.out (by omega) h1 HF.out (.inr (.inl (by rw [HU.out]; exact c2))))
        go_wp2
        go_ret3
        exact ⟨by show _ = _; rw [HE.out]; rfl, hB4⟩
      by_cases c3 : u < floor
      · have HE := Lib.hid (ready_few n m floor l hs.out (by omega) h1 HF.out (.inr (.inr (by rw [HU.out]; exact c3))))
        go_wp2
        go_ret3
        exact ⟨by show _ = _; rw [HE.out]; rfl, hB4⟩
      have HE := Lib.hid (ready_find n m floor l hs.out (by omega) h1 HF.out (by rw [HU.out, HQ.out]; omega))
      have HP := Lib.hid (prim_f n u HN.out (by omega))
      go_wp2
      go_loopw [60] (fun i wr => ∃ k : Nat, k ≤ l.length ∧ i = .int .i64 k ∧ Hid (findP n u k (l.drop k) = readyS n m floor l) ∧ Below w.heap.size w wr) (fun i _ => l.length - (intOf i).toNat)
      case atStart => exact ⟨0, Nat.zero_le _, rfl, (by show _ = _; rw [HE.out, HU.out]; rfl), hB4⟩
      case round =>
        clear hB4 HE
        obtain ⟨k, hk, rfl, HA, hB⟩ := hrel
        by_cases hlt : k < l.length
        · obtain ⟨ad, ha, g0, g1, g2⟩ := at_T66 (Kd.C_below hC.out hB) (k : Int) (by omega) (by omega)
          obtain rfl := Option.some.inj ha
          clear ha
          simp only [Int.toNat_natCast] at g0 g1 g2
          obtain ⟨x, hx⟩ : ∃ x, rd_T66 l (k : Int) = x := ⟨_, rfl⟩
          rw [hx] at g0 g1 g2
          have HX := Lib.hid hx
          clear hx
          by_cases e1 : x.f0 = u % n
          · by_cases e2 : x.f1 = u
            · by_cases e3 : x.f2 = true
              · have HE := Lib.hid (HA.out.symm.trans (find_yes n u l k hlt (by rw [HX.out]; simp [prim, e1, e2, e3])))
                have b1 : (x.f0 == u % n) = true := beq_iff_eq.mpr e1
                have b2 : (x.f1 == u) = true := beq_iff_eq.mpr e2
                clear e1 e2 HA
                go_wp2
                go_quiet ((go_at_call 34; exact quiet0 (votes_Primary.calls n u (u % n) _ HP.out)))
                go_wp2
                go_ret3
                exact ⟨by show _ = _; rw [HE.out]; rfl, pw_below_drewN (hB.alloc hB.size _) _⟩
              · have HE := Lib.hid ((find_no n u l k hlt (by rw [HX.out]; simp [prim, e1, e2, e3])).symm.trans HA.out)
                have b1 : (x.f0 == u % n) = true := beq_iff_eq.mpr e1
                have b2 : (x.f1 == u) = true := beq_iff_eq.mpr e2
                clear e1 e2 HA
                go_wp2
                go_quiet ((go_at_call 34; exact quiet0 (votes_Primary.calls n u (u % n) _ HP.out)))
                go_wp2
                go_roundw
                case rel => exact ⟨k + 1, by omega, by go_num, HE, pw_below_drewN (hB.alloc hB.size _) _⟩
                case measure => simp [intOf]; omega
            · have HE := Lib.hid ((find_no n u l k hlt (by rw [HX.out]; simp [prim, e1, e2])).symm.trans HA.out)
              have b1 : (x.f0 == u % n) = true := beq_iff_eq.mpr e1
              have b2 : (x.f1 == u) = false := beq_eq_false_iff_ne.mpr e2
              clear e1 e2 HA
              go_wp2
              go_quiet ((go_at_call 34; exact quiet0 (votes_Primary.calls n u (u % n) _ HP.out)))
              go_wp2
              go_roundw
              case rel => exact ⟨k + 1, by omega, by go_num, HE, pw_below_drewN (hB.alloc hB.size _) _⟩
              case measure => simp [intOf]; omega
          · have HE := Lib.hid ((find_no n u l k hlt (by rw [HX.out]; simp [prim, e1])).symm.trans HA.out)
            have b1 : (x.f0 == u % n) = false := beq_eq_false_iff_ne.mpr e1
            clear e1 HA
            go_wp2
            go_quiet ((go_at_call 34; exact quiet0 (votes_Primary.calls n u (u % n) _ HP.out)))
            go_wp2
            go_roundw
            case rel => exact ⟨k + 1, by omega, by go_num, HE, pw_below_drewN (hB.alloc hB.size _) _⟩
            case measure => simp [intOf]; omega
        · obtain rfl : k = l.length := by omega
          have HZ := Lib.hid (HA.out.symm.trans (find_end n u l))
          clear HA
          go_wp2
          go_ret3
          exact ⟨by show _ = _; rw [HZ.out]; rfl, hB⟩
end Go.Proofs.Ytobnehbcnlhchaa.Ch
