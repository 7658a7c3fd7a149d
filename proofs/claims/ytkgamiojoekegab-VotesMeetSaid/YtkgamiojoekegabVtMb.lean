/- The law VotesMeet: its walk. Conditions: none. -/
import Derived.Test.YtkgamiojoekegabVtMa
import Derived.StillTailTactics
namespace Go.Proofs.Ytkgamiojoekegab.Vt
open Go.RowKit Go.Proofs.YtkgamiojoekegabW.PrintWords Go.Proofs.Ytkgamiojoekegab.PVotesConfigs
set_option linter.unusedVariables false

theorem wf_i {c : Int} : (Lit.int .i64 c).wf = true ↔ -9223372036854775808 ≤ c ∧ c ≤ 9223372036854775807 := by simp [Lit.wf, IntKind.min, IntKind.max, IntKind.signed, IntKind.bits]
theorem tdiv_in {c : Int} {n : Nat} (hc : (Lit.int .i64 c).wf = true) (hn : n = 3 ∨ n = 5 ∨ n = 7) : -9223372036854775808 ≤ Int.tdiv c (n : Int) ∧ Int.tdiv c (n : Int) ≤ 9223372036854775807 := by
  have hb := wf_i.1 hc
  rcases Int.lt_or_le c 0 with h | h
  · obtain ⟨m, rfl⟩ : ∃ m, c = -m := ⟨-c, by omega⟩
    rw [Int.neg_tdiv, Int.tdiv_eq_ediv_of_nonneg (by omega)]
    rcases hn with rfl | rfl | rfl <;> omega
  · rw [Int.tdiv_eq_ediv_of_nonneg h]
    rcases hn with rfl | rfl | rfl <;> omega
theorem tdiv_wrap {c : Int} {n : Nat} (hc : (Lit.int .i64 c).wf = true) (hn : n = 3 ∨ n = 5 ∨ n = 7) : IntKind.i64.wrap (Int.tdiv c (n : Int)) = Int.tdiv c (n : Int) :=
  IntWalk.i64_in _ (tdiv_in hc hn)
theorem slots {c : Int} {n : Nat} (hc : (Lit.int .i64 c).wf = true) (hn : n = 3 ∨ n = 5 ∨ n = 7) : ∃ p s : Nat, p < n ∧ s < n - 1 ∧
    Hid (∀ W : World, Calls Try.prog 39 #[.int .i64 c, .int .i64 (n : Int)] W fun e w' => e = .returned (.int .i64 (p : Int)) ∧ w' = W) ∧
    Hid (∀ W : World, Calls Try.prog 39 #[.int .i64 (Int.tdiv c (n : Int)), .int .i64 ((n : Int) - 1)] W fun e w' => e = .returned (.int .i64 (s : Int)) ∧ w' = W) := by
  have h1 := pickS_ge c (n : Int) (by omega)
  have h2 := pickS_lt c (n : Int) (by omega)
  have h3 := pickS_ge (Int.tdiv c (n : Int)) ((n : Int) - 1) (by omega)
  have h4 := pickS_lt (Int.tdiv c (n : Int)) ((n : Int) - 1) (by omega)
  refine ⟨(pickS c n).toNat, (pickS (Int.tdiv c n) (n - 1)).toNat, by omega, by omega, fun W => ?_, fun W => ?_⟩
  · rw [Int.toNat_of_nonneg h1]
    exact pick39 c n W hc (by omega) (by omega)
  · rw [Int.toNat_of_nonneg h3]
    exact pick39 _ _ W (wf_i.2 (tdiv_in hc hn)) (by omega) (by omega)
theorem km_ex (k s n : Nat) (hk : k ≤ 4) (hn : n ≤ 7) (hs : s < n - 1) : ∃ km : Nat, k * (1 + s) = km ∧ km ≤ 1000 :=
  ⟨_, rfl, Nat.le_trans (Nat.mul_le_mul hk (show 1 + s ≤ 7 by omega)) (by omega)⟩

set_option maxHeartbeats 2000000 in
set_option maxRecDepth 100000 in
theorem meet_walk (size one two view : Int) (hs : (Lit.int .i64 size).wf = true) (ho : (Lit.int .i64 one).wf = true) (ht : (Lit.int .i64 two).wf = true) (hv : (Lit.int .i64 view).wf = true) (w : World) :
    Calls Try.prog 8 #[.int .i64 size, .int .i64 one, .int .i64 two, .int .i64 view] w fun e w' => e = .returned (.bool true) ∧ Below w.heap.size w w' := by
  have HS := Lib.hid hs
  have HO := Lib.hid ho
  have HT := Lib.hid ht
  have HV := Lib.hid hv
  clear hs ho ht hv
  go_enter Try.func8, Try.ntmps8
  go_wp2_with fail
  refine (shown28 w).mono ?_
  rintro e w1 ⟨rfl, hB1⟩
  go_wp2_with fail
  refine (pick39 size 3 w1 HS.out (by omega) (by omega)).mono ?_
  rintro e w2 ⟨rfl, rfl⟩
  have hq0 := pickS_ge size 3 (by omega)
  have hq1 := pickS_lt size 3 (by omega)
  obtain ⟨q, hq⟩ : ∃ q : Nat, pickS size 3 = (q : Int) := ⟨(pickS size 3).toNat, by omega⟩
  rw [hq] at hq0 hq1 ⊢
  clear hq
  have hw1 : IntKind.i64.wrap (2 * (q : Int)) = 2 * (q : Int) := IntWalk.i64_in _ (by omega)
  have hw2 : IntKind.i64.wrap (3 + 2 * (q : Int)) = 3 + 2 * (q : Int) := IntWalk.i64_in _ (by omega)
  have HMJ := Lib.hid (fun W => votes_Majority.calls _ _ W (maj_q q (by omega)))
  have HFL := Lib.hid (fun W => votes_Faults.calls _ _ W (flt_q q (by omega)))
  have HPR := Lib.hid (fun v W => votes_Primary.calls _ _ _ W (prim_q q (by omega) v))
  go_wp2_with fail
  obtain ⟨n, hn⟩ : ∃ n : Nat, 3 + 2 * q = n := ⟨_, rfl⟩
  have hni : 3 + 2 * (q : Int) = (n : Int) := by omega
  rw [hni] at HMJ HFL HPR ⊢
  rw [hn] at HPR
  have HN := Lib.hid hn
  have hn3 : n = 3 ∨ n = 5 ∨ n = 7 := by omega
  have HN3 := Lib.hid hn3
  have hnl : 3 ≤ n := by omega
  have hnh : n ≤ 7 := by omega
  have hqn : 2 * q + 3 ≤ n := by omega
  have hqn2 : n ≤ 2 * q + 3 := by omega
  clear hw1 hw2 hni hn hn3
  refine (HMJ.out _).mono ?_
  rintro e w3 ⟨rfl, hd3⟩
  have hB3 := hB1.trans (hd3.below.mono hB1.size)
  clear hd3 hB1
  go_wp2_with fail
  refine (HFL.out _).mono ?_
  rintro e w4 ⟨rfl, hd4⟩
  have hB4 := hB3.trans (hd4.below.mono hB3.size)
  clear hd4 hB3
  have hwa : IntKind.i64.wrap ((q : Int) + 2 + ((q : Int) + 1)) = (q : Int) + 2 + ((q : Int) + 1) := IntWalk.i64_in _ (by omega)
  have hwb : ((q : Int) + 2 + ((q : Int) + 1) == (n : Int)) = true := by simp; omega
  have hwc : ((q : Int) + 2 + ((q : Int) + 1) != (n : Int)) = false := by simp; omega
  have hwd : decide ((q : Int) + 2 ≤ (q : Int) + 1) = false := by simp
  go_wp2_with fail
  refine (HFL.out _).mono ?_
  rintro e w5 ⟨rfl, hd5⟩
  have hB5 := hB4.trans (hd5.below.mono hB4.size)
  clear hd5 hB4 hwa hwb hwc
  go_wp2_with (first | (at_make; refine makeB rfl (.tmp 44) (.tmp 44) rfl n HN3.out rfl rfl ?_; intro w6 hLa hla hb6) | (at_make; refine makeB rfl (.tmp 46) (.tmp 46) rfl n HN3.out rfl rfl ?_; intro w7 hLb hlb hb7))
  have hwg := hB5.size
  obtain ⟨ga, hga⟩ : ∃ g, w5.heap.size = g := ⟨_, rfl⟩
  obtain ⟨gb, hgb⟩ : ∃ g, w6.heap.size = g := ⟨_, rfl⟩
  have hab : ga < gb := by omega
  have hLa7 : LB w7 ga (List.replicate n false) := by rw [← hga]; exact hLa.keep (hb7.block _ (by omega))
  have hB7 := (hB5.trans (hb6.mono hB5.size)).trans (hb7.mono (by omega))
  rw [hga] at hwg
  rw [hgb] at hLb
  rw [hga, hgb]
  have HLA := Lib.hid hLa7
  have HLB := Lib.hid hLb
  clear hga hgb hLa hla hb6 hb7 hLb hlb hLa7 hB5
  obtain ⟨p, s, hp, hs, HP1, HP2⟩ := slots HO.out HN3.out
  obtain ⟨p', s', hp', hs', HP3, HP4⟩ := slots HT.out HN3.out
  have hnz : ((n : Int) == 0) = false := by simp; omega
  have hn0 : ¬ n = 0 := by omega
  have hwd1 : IntKind.i64.wrap (Int.tdiv one (n : Int)) = Int.tdiv one (n : Int) := tdiv_wrap HO.out HN3.out
  have hwd2 : IntKind.i64.wrap (Int.tdiv two (n : Int)) = Int.tdiv two (n : Int) := tdiv_wrap HT.out HN3.out
  go_loopw [14] (fun i wr => ∃ (k : Nat), k ≤ q + 2 ∧ i = .int .i64 k ∧ Hid (LB wr ga (mkd n p (1 + s) k)) ∧ Hid (LB wr gb (mkd n p' (1 + s') k)) ∧ Below w.heap.size w wr) (fun i _ => q + 2 - (intOf i).toNat)
  case atStart => exact ⟨0, Nat.zero_le _, rfl, HLA, HLB, hB7⟩
  case round =>
    clear hB7 HLA HLB
    obtain ⟨k, hk, rfl, HLA, HLB, hB⟩ := hrel
    by_cases hlt : k < q + 2
    · have d1 : decide ((k : Int) < (q : Int) + 2) = true := decide_eq_true (by omega)
      obtain ⟨km, hkm, hkb⟩ := km_ex k s n (by omega) (by omega) hs
      obtain ⟨x, hx⟩ : ∃ x : Nat, p + km = x := ⟨_, rfl⟩
      have hxi : (p : Int) + (km : Int) = (x : Int) := by omega
      obtain ⟨j, hj⟩ : ∃ j : Nat, x % n = j := ⟨_, rfl⟩
      have hjn : j < n := by rw [← hj]; exact Nat.mod_lt _ (by omega)
      have hjm : Int.tmod (x : Int) (n : Int) = (j : Int) := by rw [Int.tmod_eq_emod_of_nonneg (by omega), ← hj]; rfl
      have hje : (x : Int) % (n : Int) = (j : Int) := by rw [← hj]; rfl
      have hwk : IntKind.i64.wrap (km : Int) = (km : Int) := IntWalk.i64_in _ (by omega)
      have hwx : IntKind.i64.wrap (x : Int) = (x : Int) := IntWalk.i64_in _ (by omega)
      have hwj : IntKind.i64.wrap (j : Int) = (j : Int) := IntWalk.i64_in _ (by omega)
      have hws : IntKind.i64.wrap (1 + (s : Int)) = 1 + (s : Int) := IntWalk.i64_in _ (by omega)
      have hwn : IntKind.i64.wrap ((n : Int) - 1) = (n : Int) - 1 := IntWalk.i64_in _ (by omega)
      have HLA2 := Lib.hid (LB.set HLA.out j true)
      have hca := LB.cell HLA.out j (by rw [mkd_len]; exact hjn)
      have hfa : wr.frozen? ⟨ga, j, none⟩ = false := Blk.frozen HLA.out j
      have HJ : Hid ((p + k * (1 + s)) % n = j) := by rw [hkm, hx]; exact hj
      have hji : (j : Int) < (n : Int) := by omega
      have hki : (k : Int) * (1 + (s : Int)) = (km : Int) := by rw [← hkm]; simp
      clear hx hj hkm
      generalize (mkd n p (1 + s) k).getD j false = bo at hca
      go_wp2_with fail
      go_still_tail 17, (by kernel_rfl)
      still_call (HP1.out _)
      repeat still_step
      still_call (HP2.out _)
      repeat still_step
      refine wpStill_nil ?_
      change wpList _ _ _ _ _ wr.drew
      generalize hw8 : wr.drew = w8
      have hca8 : w8.cell? ⟨ga, j, none⟩ = some (.bool bo) := by rw [← hw8]; exact hca
      have hfa8 : w8.frozen? ⟨ga, j, none⟩ = false := by rw [← hw8]; exact hfa
      obtain ⟨w9, hw9⟩ : ∃ w9, w8.setCell ⟨ga, j, none⟩ (.bool true) = w9 := ⟨_, rfl⟩
      have HLA9 : Hid (LB w9 ga (mkd n p (1 + s) (k + 1))) := by show LB _ _ ((mkd n p (1 + s) k).set ((p + k * (1 + s)) % n) true); rw [← hw9, ← hw8, HJ.out]; exact HLA2.out
      have HLB9 : Hid (LB w9 gb (mkd n p' (1 + s') k)) := by rw [← hw9, ← hw8]; exact HLB.out.far (by omega) _ _
      have hB9 : Below w.heap.size w w9 := by rw [← hw9, ← hw8]; exact hB.drew.setCell (p := ⟨ga, j, none⟩) hwg _
      clear hw8 hca hfa HLA2 HLA HLB hB HJ
      go_wp2_with fail
      clear hca8 hfa8 hxi hki hji hjm hje hwj hwx hwk hws hjn
      obtain ⟨km', hkm', hkb'⟩ := km_ex k s' n (by omega) (by omega) hs'
      obtain ⟨x', hx'⟩ : ∃ x : Nat, p' + km' = x := ⟨_, rfl⟩
      have hxi : (p' : Int) + (km' : Int) = (x' : Int) := by omega
      obtain ⟨j', hj'⟩ : ∃ j : Nat, x' % n = j := ⟨_, rfl⟩
      have hjn : j' < n := by rw [← hj']; exact Nat.mod_lt _ (by omega)
      have hjm : Int.tmod (x' : Int) (n : Int) = (j' : Int) := by rw [Int.tmod_eq_emod_of_nonneg (by omega), ← hj']; rfl
      have hje : (x' : Int) % (n : Int) = (j' : Int) := by rw [← hj']; rfl
      have hwk : IntKind.i64.wrap (km' : Int) = (km' : Int) := IntWalk.i64_in _ (by omega)
      have hwx : IntKind.i64.wrap (x' : Int) = (x' : Int) := IntWalk.i64_in _ (by omega)
      have hwj : IntKind.i64.wrap (j' : Int) = (j' : Int) := IntWalk.i64_in _ (by omega)
      have hws : IntKind.i64.wrap (1 + (s' : Int)) = 1 + (s' : Int) := IntWalk.i64_in _ (by omega)
      have HLB2 := Lib.hid (LB.set HLB9.out j' true)
      have hcb := LB.cell HLB9.out j' (by rw [mkd_len]; exact hjn)
      have hfb : w9.frozen? ⟨gb, j', none⟩ = false := Blk.frozen HLB9.out j'
      have HJ' : Hid ((p' + k * (1 + s')) % n = j') := by rw [hkm', hx']; exact hj'
      have hji : (j' : Int) < (n : Int) := by omega
      have hki : (k : Int) * (1 + (s' : Int)) = (km' : Int) := by rw [← hkm']; simp
      clear hx' hj' hkm'
      generalize (mkd n p' (1 + s') k).getD j' false = bo' at hcb
      go_wp2_with fail
      go_still_tail 17, (by kernel_rfl)
      still_call (HP3.out _)
      repeat still_step
      still_call (HP4.out _)
      repeat still_step
      refine wpStill_nil ?_
      change wpList _ _ _ _ _ w9.drew
      generalize hwa : w9.drew = wa
      have hcba : wa.cell? ⟨gb, j', none⟩ = some (.bool bo') := by rw [← hwa]; exact hcb
      have hfba : wa.frozen? ⟨gb, j', none⟩ = false := by rw [← hwa]; exact hfb
      have HLBb : Hid (LB (wa.setCell ⟨gb, j', none⟩ (.bool true)) gb (mkd n p' (1 + s') (k + 1))) := by show LB _ _ ((mkd n p' (1 + s') k).set ((p' + k * (1 + s')) % n) true); rw [← hwa, HJ'.out]; exact HLB2.out
      have HLAb : Hid (LB (wa.setCell ⟨gb, j', none⟩ (.bool true)) ga (mkd n p (1 + s) (k + 1))) := by rw [← hwa]; exact HLA9.out.far (by omega) _ _
      have hBb : Below w.heap.size w (wa.setCell ⟨gb, j', none⟩ (.bool true)) := by rw [← hwa]; exact hB9.drew.setCell (p := ⟨gb, j', none⟩) (by show w.heap.size ≤ gb; omega) _
      clear hwa hcb hfb HLB2 HLA9 HLB9 hB9 HJ'
      go_wp2
      go_roundw
      case rel => exact ⟨k + 1, by omega, by go_num, HLAb, HLBb, hBb⟩
      case measure => simp [intOf]; omega
    · obtain rfl : k = q + 2 := by omega
      have d1 : decide (((q + 2 : Nat) : Int) < (q : Int) + 2) = false := decide_eq_false (by omega)
      have d1' : decide (q + 2 < q + 2) = false := by simp
      have HM : Hid (meets (mkd n p (1 + s) (q + 2)) (mkd n p' (1 + s') (q + 2)) n = true) := meet_q q n (by omega) (by omega) p s p' s' hp hs hp' hs'
      have HA1 : Hid ((mkd n p (1 + s) (q + 2)).length = n) := mkd_len _ _ _ _
      have HA2 : Hid ((mkd n p' (1 + s') (q + 2)).length = n) := mkd_len _ _ _ _
      generalize mkd n p (1 + s) (q + 2) = la at *
      generalize mkd n p' (1 + s') (q + 2) = lb at *
      clear hlt hk hwd1 hwd2 hnz hn0 HP1 HP2 HP3 HP4 hp hs hp' hs'
      go_wp2
      go_loop [15, 16] (fun b i => ∃ (k : Nat), k ≤ n ∧ i = .int .i64 k ∧ b = .bool (meets la lb k)) (fun _ i => n - (intOf i).toNat)
      case atStart => exact ⟨0, Nat.zero_le _, rfl, rfl⟩
      case round =>
        obtain ⟨k, hk, rfl, rfl⟩ := hrel
        by_cases hlt : k < n
        · have d1 : decide ((k : Int) < (n : Int)) = true := decide_eq_true (by omega)
          have ca := LB.cell HLA.out k (by rw [HA1.out]; exact hlt)
          have cb := LB.cell HLB.out k (by rw [HA2.out]; exact hlt)
          have HS : Hid (meets la lb (k + 1) = (meets la lb k || (la.getD k false && lb.getD k false))) := rfl
          generalize la.getD k false = xa at *
          generalize lb.getD k false = xb at *
          generalize meets la lb k = m at *
          have hki : (k : Int) < (n : Int) := by omega
          cases m <;> cases xa <;> cases xb
          all_goals
            go_wp2
            go_round
            case rel => exact ⟨k + 1, by omega, by go_num, by rw [HS.out]; rfl⟩
            case measure => simp [intOf]; omega
        · obtain rfl : k = n := by omega
          have d1 : decide ((k : Int) < (k : Int)) = false := decide_eq_false (by omega)
          rw [HM.out]
          clear hlt hk
          go_wp2_with (at_make; refine makeB rfl (.tmp 105) (.tmp 105) rfl k HN3.out rfl rfl ?_; intro wl hLl hll hbl)
          have hBl := hB.trans (hbl.mono hB.size)
          have hwl := hB.size
          obtain ⟨gl, hgl⟩ : ∃ g, wr.heap.size = g := ⟨_, rfl⟩
          rw [hgl] at hLl hwl ⊢
          have HLL := Lib.hid hLl
          clear hgl hLl hbl hB HLA HLB HA1 HA2 HM
          have hv0 := pickS_ge view 1099511627776 (by omega)
          have hv1 := pickS_lt view 1099511627776 (by omega)
          have HPV := Lib.hid (fun W => pick39 view 1099511627776 W HV.out (by omega) (by omega))
          obtain ⟨v, hvv⟩ : ∃ v : Nat, pickS view 1099511627776 = (v : Int) := ⟨(pickS view 1099511627776).toNat, by omega⟩
          rw [hvv] at hv0 hv1 HPV
          have hvb : v < 1099511627776 := by omega
          clear hvv hv0 hv1
          go_wp2_with fail
          refine (HPV.out _).mono ?_
          rintro e wv ⟨rfl, rfl⟩
          go_wp2
          go_loopw [19, 20] (fun i pr wr => ∃ (j : Nat), j ≤ k ∧ i = .int .i64 j ∧ Hid (LB wr gl (mkd k (v % k) 1 j)) ∧ Below w.heap.size w wr) (fun i _ _ => k - (intOf i).toNat)
          case atStart => exact ⟨0, Nat.zero_le _, rfl, HLL, hBl⟩
          case round =>
            clear hBl HLL
            obtain ⟨j, hj, rfl, HLL, hB⟩ := hrel
            by_cases hlt : j < k
            · have d1 : decide ((j : Int) < (k : Int)) = true := decide_eq_true (by omega)
              have hws : IntKind.i64.wrap ((v : Int) + (j : Int)) = ((v + j : Nat) : Int) := by rw [IntWalk.i64_in _ (by omega)]; omega
              have hvj : (v : Int) + (j : Int) = ((v + j : Nat) : Int) := by omega
              have HPRv := Lib.hid (fun W => HPR.out (v + j) W)
              have hmod : (v + j) % k = (v % k + j * 1) % k := by rw [Nat.mul_one, Nat.mod_add_mod]
              have HLD := Lib.hid (led_q q k (by omega) (by omega) (v % k) j (Nat.mod_lt _ (by omega)) hlt)
              obtain ⟨r, hr⟩ : ∃ r, (v + j) % k = r := ⟨_, rfl⟩
              have hrk : r < k := by rw [← hr]; exact Nat.mod_lt _ (by omega)
              have HR : Hid ((v % k + j * 1) % k = r) := by rw [← hmod]; exact hr
              rw [hr] at HPRv
              have hLD : (mkd k (v % k) 1 j)[r]? = some false := by have := HLD.out; rw [show (v % k + j) % k = r by rw [← hr, Nat.mod_add_mod]] at this; exact this
              obtain ⟨vj, hvj2⟩ : ∃ vj : Nat, v + j = vj := ⟨_, rfl⟩
              rw [hvj2] at hws hvj HPRv
              have HLD2 := Lib.hid hLD
              clear hr HLD hmod hLD hvj2
              go_wp2_with fail
              refine (HPRv.out _).mono ?_
              rintro e wp ⟨rfl, hdp⟩
              have HLP := Lib.hid (HLL.out.keep (hdp.below.block gl HLL.out.lt))
              have hBp := hB.trans (hdp.below.mono hB.size)
              clear hdp HPRv HLL hB
              have hcl := LB.cell HLP.out r (by rw [mkd_len]; exact hrk)
              rw [List.getD_eq_getElem?_getD, HLD2.out, Option.getD_some] at hcl
              have HL2 : Hid (LB (wp.setCell ⟨gl, r, none⟩ (.bool true)) gl (mkd k (v % k) 1 (j + 1))) := by show LB _ _ ((mkd k (v % k) 1 j).set ((v % k + j * 1) % k) true); rw [HR.out]; exact LB.set HLP.out r true
              have hfl : wp.frozen? ⟨gl, r, none⟩ = false := Blk.frozen HLP.out r
              have hB2 := hBp.setCell (p := ⟨gl, r, none⟩) hwl (.bool true)
              have e1 : decide ((r : Int) < 0) = false := decide_eq_false (by omega)
              have e2 : decide ((k : Int) ≤ (r : Int)) = false := decide_eq_false (by omega)
              have e3 : decide (k ≤ r) = false := decide_eq_false (by omega)
              have hri : (r : Int) < (k : Int) := by omega
              clear HLP hBp
              go_wp2
              go_roundw
              case rel => exact ⟨j + 1, by omega, by go_num, HL2, hB2⟩
              case measure => simp [intOf]; omega
            · have d1 : decide ((j : Int) < (k : Int)) = false := decide_eq_false (by omega)
              have d2 : decide (j < k) = false := decide_eq_false (by omega)
              go_wp2
              go_ret
              exact ⟨rfl, hB⟩
theorem meet_row (w : World) (a0 : Int) (w0 : (Lit.int .i64 a0).wf = true) (a1 : Int) (w1 : (Lit.int .i64 a1).wf = true) (a2 : Int) (w2 : (Lit.int .i64 a2).wf = true) (a3 : Int) (w3 : (Lit.int .i64 a3).wf = true) :
    Calls Try.prog 8 #[.int .i64 a0, .int .i64 a1, .int .i64 a2, .int .i64 a3] w fun e w' => e = .returned (.bool true) ∧ Below w.heap.size w w' := meet_walk a0 a1 a2 a3 w0 w1 w2 w3 w
end Go.Proofs.Ytkgamiojoekegab.Vt
