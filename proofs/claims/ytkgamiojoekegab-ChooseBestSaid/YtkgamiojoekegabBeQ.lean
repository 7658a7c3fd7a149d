/- The helpers of the law ChooseBest: a list of one's own with two marked places behind it; is what Best answers of it the document's? Conditions: none. -/
import Derived.Test.YtkgamiojoekegabBeM
import Derived.Test.YtkgamiojoekegabBeF
namespace Go.Proofs.Ytkgamiojoekegab.Be
open Go.RowKit Go.Proofs.YtkgamiojoekegabW.PrintWords Go.Proofs.Ytkgamiojoekegab.PChooseBest
set_option linter.unusedVariables false

def mk9 : S26 := ⟨-9, 99, 0, 0⟩
set_option maxHeartbeats 1000000 in
theorem ballots13 (A : Option Addr) (c : Nat) (l : List S26) (w : World) (hA : Kd.C k26 w A l.length l) (hc : l.length ≤ c) (hb : c * 32 ≤ 140737488351232) (hnn : A = none → c = 0) :
    Calls Try.prog 13 #[.slice A l.length c] w fun e w' => ∃ g cap, e = .returned (.slice (some ⟨g, 0, none⟩) l.length cap) ∧ l.length + 2 ≤ cap ∧ Own w' w.heap.size (.slice (some ⟨g, 0, none⟩) (l.length + 2) cap) (l ++ [mk9, mk9]) ∧ Below w.heap.size w w' := by
  have key : ∀ v1 w1, Own w1 w.heap.size v1 l → Below w.heap.size w w1 → ∀ v2 w2, Own w2 w.heap.size v2 (l ++ [mk9, mk9]) → (w1.alloc (.cells #[.int .i64 (-9), .int .i64 99, .int .i64 0, .int .i64 0, .int .i64 (-9), .int .i64 99, .int .i64 0, .int .i64 0] 26 (0, 0))).grownBy w2 v1.ownBlock →
      ∃ g cap, v2 = .slice (some ⟨g, 0, none⟩) (l.length + 2) cap ∧ l.length + 2 ≤ cap ∧ cap ≤ 9223372036854775807 ∧ Below w.heap.size w w2 := by
    intro v1 w1 h1 hB v2 w2 h2 hg
    obtain ⟨g, cap, e, _, h3, h4⟩ := h2.notNil (by simp)
    refine ⟨g, cap, by rw [e]; simp, by simpa using h3, h4, ?_⟩
    exact (hB.alloc hB.size _).grown hg (by have := hB.size; simp; omega) (fun k hk => h1.base k hk)
  have KEY := Lib.hid key
  clear key
  have hlit : ∀ w1 : World, ∀ j u, (cells26 [mk9, mk9])[j]? = some u → (w1.alloc (.cells #[.int .i64 (-9), .int .i64 99, .int .i64 0, .int .i64 0, .int .i64 (-9), .int .i64 99, .int .i64 0, .int .i64 0] 26 (0, 0))).cell? ((⟨w1.heap.size, 0, none⟩ : Addr).add j) = some u := by
    intro w1 j u hj
    rw [add_plain, Blk.cell (Blk.new _ _)]
    simpa [cells26, mk9] using hj
  have HLIT := Lib.hid hlit
  clear hlit
  have hbl : (l.length + 2) * 32 ≤ 140737488355328 := by omega
  have HCL := Lib.hid hA
  have HNN := Lib.hid hnn
  clear hA hnn
  go_enter Try.func13, Try.ntmps13
  go_wp2_with (at_builtin; refine append26o rfl (.const (.slice none 0 0)) (.tmp 4) rfl w.heap.size (.slice none 0 0) [] rfl (Own.nil _ _) A l.length c l rfl HNN.out HCL.out (by simp; omega) (Nat.le_refl _) ?_)
  intro v1 w1 hown1 hg1
  replace hown1 : Own w1 w.heap.size v1 l := hown1
  have hB1 : Below w.heap.size w w1 := (Below.refl _ _).grown hg1 (Nat.le_refl _) (by simp [Value.ownBlock])
  have HO1 := Lib.hid hown1
  clear hown1 hg1
  have hs1 := hB1.size
  go_wp2_with (at_builtin; refine append26 rfl (.tmp 6) (.tmp 9) rfl w.heap.size v1 l rfl (HO1.out.alloc _) ⟨w1.heap.size, 0, none⟩ 2 2 [mk9, mk9] rfl rfl (HLIT.out w1) (by simp; omega) (by simp; omega) ?_)
  intro v2 w2 hown2 hg2
  obtain ⟨g, cap, hv, hcap, hcm, hB2⟩ := KEY.out v1 w1 HO1.out hB1 v2 w2 hown2 hg2
  rw [hv] at hown2 ⊢
  have HO2 := Lib.hid hown2
  clear hown2 hg2 hv hB1
  go_wp2
  go_ret
  exact ⟨g, cap, by simp, hcap, HO2.out, hB2⟩

theorem mk9_at (l : List S26) (j : Nat) (hj : j < 2) : rd_T26 [mk9, mk9] (j : Int) = mk9 := by
  have : j = 0 ∨ j = 1 := by omega
  rcases this with rfl | rfl <;> rfl

set_option maxHeartbeats 2000000 in
set_option maxRecDepth 100000 in
theorem best14 (n : Int) (g cap : Nat) (A : Option Addr) (c : Nat) (l : List S26) (w : World) (hA : Kd.C k26 w A l.length l) (hc : l.length ≤ c) (hcap : l.length + 2 ≤ cap) (hlen : l.length ≤ 4398046511100) (hO : ∃ B, Own w B (.slice (some ⟨g, 0, none⟩) (l.length + 2) cap) (l ++ [mk9, mk9])) :
    Calls Try.prog 14 #[.int .i64 n, .slice (some ⟨g, 0, none⟩) l.length cap, .slice A l.length c] w fun e w' => e = .returned (.bool true) ∧ Below w.heap.size w w' := by
  obtain ⟨B, hO⟩ := hO
  obtain ⟨A', c', e', hCall, _⟩ := hO.reads (by simp; omega)
  injection e' with e1 e2 e3
  subst e1 e3
  rw [show (l ++ [mk9, mk9]).length = l.length + 2 by simp] at hCall
  have HP := Lib.hid (C_prefix hCall)
  have HS := Lib.hid (C_suffix hCall)
  have hC := Lib.hid hA
  clear hA hO hCall e2
  have HRA := Lib.hid (best_any n (some ⟨g, 0, none⟩) cap l w HP.out)
  have HRB := Lib.hid (fun w2 h => refbest_any n A c l w2 h hc)
  obtain ⟨p, hp⟩ : ∃ p, bestS n l = p := ⟨_, rfl⟩
  obtain ⟨a, b, e⟩ := p
  rw [hp] at HRA HRB
  unfold tup at HRA HRB
  dsimp only at HRA HRB
  clear hp
  go_enter Try.func14, Try.ntmps14
  go_wp2_with fail
  refine HRA.out.mono ?_
  rintro e1 w1 ⟨rfl, hB1⟩
  clear HRA
  go_wp2_with fail
  refine (HRB.out _ (Kd.C_below hC.out hB1)).mono ?_
  rintro e2 w2 ⟨rfl, hB2'⟩
  have hB2 : Below w.heap.size w w2 := hB1.trans (hB2'.mono hB1.size)
  clear HRB hB1 hB2'
  go_wp2
  go_loopw [45] (fun i wr => ∃ k : Nat, k ≤ l.length ∧ i = .int .i64 k ∧ Below w.heap.size w wr) (fun i _ => l.length - (intOf i).toNat)
  case atStart => exact ⟨0, Nat.zero_le _, rfl, hB2⟩
  case round =>
    clear hB2
    obtain ⟨k, hk, rfl, hB⟩ := hrel
    by_cases hlt : k < l.length
    · obtain ⟨ad, ha, g0, g1, g2, g3⟩ := at_T26 (Kd.C_below hC.out hB) (k : Int) (by omega) (by omega)
      subst ha
      obtain ⟨ad', ha', r0, r1, r2, r3⟩ := at_T26 (Kd.C_below HP.out hB) (k : Int) (by omega) (by omega)
      obtain rfl := Option.some.inj ha'
      clear ha'
      simp only [Int.toNat_natCast] at g0 g1 g2 g3
      simp only [Int.toNat_natCast, add_plain] at r0 r1 r2 r3
      obtain ⟨y, hy⟩ : ∃ y, rd_T26 l (k : Int) = y := ⟨_, rfl⟩
      rw [hy] at g0 g1 g2 g3 r0 r1 r2 r3
      clear hy
      go_wp2
      go_quiet (fail)
      go_wp2
      go_roundw
      case rel => exact ⟨k + 1, by omega, by go_num, pw_below_drewN hB _⟩
      case measure => simp [intOf]; omega
    · have hcc : ¬ cap = l.length := by omega
      go_wp2
      go_loopw [66] (fun i wr => ∃ k : Nat, k ≤ 2 ∧ i = .int .i64 k ∧ Below w.heap.size w wr) (fun i _ => 2 - (intOf i).toNat)
      case atStart => exact ⟨0, Nat.zero_le _, rfl, hB⟩
      case round =>
        clear hB
        obtain ⟨k, hk, rfl, hB⟩ := hrel
        by_cases hlt : k < 2
        · obtain ⟨ad', ha', r0, r1, r2, r3⟩ := at_T26 (Kd.C_below HS.out hB) (k : Int) (by omega) (by simp; omega)
          obtain rfl := Option.some.inj ha'
          clear ha'
          rw [mk9_at l k hlt] at r0 r1 r2 r3
          simp only [Int.toNat_natCast, mk9, Addr.add_lit, Nat.zero_add] at r0 r1 r2 r3
          go_wp2
          go_roundw
          case rel => exact ⟨k + 1, by omega, by go_num, hB.alloc hB.size _⟩
          case measure => simp [intOf]; omega
        · go_wp2
          go_ret
          exact ⟨rfl, hB⟩
end Go.Proofs.Ytkgamiojoekegab.Be
