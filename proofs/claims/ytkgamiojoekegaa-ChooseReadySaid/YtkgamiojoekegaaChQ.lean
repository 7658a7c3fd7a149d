/- The helpers of the law ChooseReady: a list of one's own with two marked places behind it; is what Ready answers of it the document's? Conditions: none. -/
import Derived.Test.YtkgamiojoekegaaChK
import Derived.Test.YtkgamiojoekegaaChF
import Derived.Test.YtkgamiojoekegaaChMore
import Derived.Laws.AppendOwnNone
namespace Go.Proofs.Ytkgamiojoekegaa.Ch
open Go.RowKit Go.Proofs.YtkgamiojoekegaaW.PrintWords Go.Proofs.Ytkgamiojoekegaa.PChooseReady
set_option linter.unusedVariables false

def mk9 : S27 := ⟨-9, 99, false⟩
theorem C_prefix {w : World} {A : Option Addr} {l r : List S27} {n : Nat} (h : Kd.C k27 w A n (l ++ r)) : Kd.C k27 w A l.length l := by
  have h1 := h.1
  rw [List.length_append] at h1
  refine ⟨rfl, by have := h.2.1; omega, fun hp => ?_⟩
  obtain ⟨ad, e, hc⟩ := h.2.2 (by omega)
  refine ⟨ad, e, fun j p hj => hc j p ?_⟩
  rw [List.getElem?_append_left (List.getElem?_eq_some_iff.1 hj).1]; exact hj

/-- the value of a row of one's own that is not nil -/
theorem Own.notNil {w : World} {base : Nat} {v : Value} {l : List S27} (h : Own w base v l) (hl : 0 < l.length) : ∃ g cap, v = .slice (some ⟨g, 0, none⟩) l.length cap ∧ base ≤ g ∧ l.length ≤ cap ∧ cap ≤ 9223372036854775807 := by
  rcases h.2 with ⟨_, h0⟩ | ⟨g, cap, cur, rfl, hg, hh, hnc, hcm, _⟩
  · omega
  · exact ⟨g, cap, rfl, hg, hnc, by unfold maxLen at hcm; omega⟩
/-- the cells of a list of one's own and of a list that came in -/
theorem cells_of {w : World} {A : Option Addr} {n : Nat} {l : List S27} (h : Kd.C k27 w A n l) (hl : 0 < l.length) : ∃ ad, A = some ad ∧ ∀ j u, (cells27 l)[j]? = some u → w.cell? (ad.add j) = some u := by
  obtain ⟨ad, e, _⟩ := h.2.2 (by have := h.1; omega)
  subst e
  exact ⟨ad, rfl, C_cells h⟩

/-- append(v, ys...), v of the call's own, ys a list that is read, nil let in -/
theorem append27o {w : World} {ops : Array Oper} {rest : List Oper} {o : Oper} {a : Act} {Q : Exit → Act → World → Prop} (hgd : o.guard = none) (s x : Operand)
    (ho : o.op = .call { callee := .builtin .append, args := #[s, x], argTypes := #[23, 23] }) (base : Nat)
    (v : Value) (l : List S27) (hs : a.eval s = v) (hown : Own w base v l) (A : Option Addr) (m c : Nat) (ys : List S27) (hx : a.eval x = .slice A m c) (hnn : A = none → c = 0) (hC : Kd.C k27 w A m ys)
    (hbytes : (l.length + ys.length) * 24 ≤ 140737488355328) (hbase : base ≤ w.heap.size)
    (h : ∀ v' w', Own w' base v' (l ++ ys) → w.grownBy w' v.ownBlock → wpList Try.prog ops Q rest (a.put o.dst v') w') : wpList Try.prog ops Q (o :: rest) a w := by
  cases A with
  | some ad => exact append27 hgd s x ho base v l hs hown ad m c ys hx hC.1 (C_cells hC) hbytes hbase h
  | none =>
    have hm : m = 0 := by
      by_cases h0 : 0 < m
      · obtain ⟨ad, e, _⟩ := hC.2.2 h0; cases e
      · omega
    obtain rfl : ys = [] := List.eq_nil_of_length_eq_zero (by rw [hC.1, hm])
    rw [hnn rfl, hm] at hx
    obtain ⟨i, hi, hz, h1, h2⟩ := info27'
    refine wpList_append_own_none hgd s x 23 ho base 27 i 3 Try.underlying23 hi v l.length (cells27 l) hs hown hx (h v w (by simpa using hown) (World.grownBy.refl _ _))

set_option maxHeartbeats 1000000 in
theorem witnesses9 (A : Option Addr) (c : Nat) (l : List S27) (w : World) (hA : Kd.C k27 w A l.length l) (hc : l.length ≤ c) (hb : c * 24 ≤ 140737488351232) (hnn : A = none → c = 0) :
    Calls Try.prog 9 #[.slice A l.length c] w fun e w' => ∃ g cap, e = .returned (.slice (some ⟨g, 0, none⟩) l.length cap) ∧ l.length + 2 ≤ cap ∧ Own w' w.heap.size (.slice (some ⟨g, 0, none⟩) (l.length + 2) cap) (l ++ [mk9, mk9]) ∧ Below w.heap.size w w' := by
  have key : ∀ v1 w1, Own w1 w.heap.size v1 l → Below w.heap.size w w1 → ∀ v2 w2, Own w2 w.heap.size v2 (l ++ [mk9, mk9]) → (w1.alloc (.cells #[.int .i64 (-9), .int .i64 99, .bool false, .int .i64 (-9), .int .i64 99, .bool false] 27 (0, 0))).grownBy w2 v1.ownBlock →
      ∃ g cap, v2 = .slice (some ⟨g, 0, none⟩) (l.length + 2) cap ∧ l.length + 2 ≤ cap ∧ cap ≤ 9223372036854775807 ∧ Below w.heap.size w w2 := by
    intro v1 w1 h1 hB v2 w2 h2 hg
    obtain ⟨g, cap, e, _, h3, h4⟩ := h2.notNil (by simp)
    refine ⟨g, cap, by rw [e]; simp, by simpa using h3, h4, ?_⟩
    exact (hB.alloc hB.size _).grown hg (by have := hB.size; simp; omega) (fun k hk => h1.base k hk)
  have KEY := Lib.hid key
  clear key
  have hlit : ∀ w1 : World, ∀ j u, (cells27 [mk9, mk9])[j]? = some u → (w1.alloc (.cells #[.int .i64 (-9), .int .i64 99, .bool false, .int .i64 (-9), .int .i64 99, .bool false] 27 (0, 0))).cell? ((⟨w1.heap.size, 0, none⟩ : Addr).add j) = some u := by
    intro w1 j u hj
    rw [add_plain, Blk.cell (Blk.new _ _)]
    simpa [cells27, mk9] using hj
  have HLIT := Lib.hid hlit
  clear hlit
  have hbl : (l.length + 2) * 24 ≤ 140737488355328 := by omega
  have HCL := Lib.hid hA
  have HNN := Lib.hid hnn
  clear hA hnn
  go_enter Try.func9, Try.ntmps9
  go_wp2_with (at_builtin; refine append27o rfl (.const (.slice none 0 0)) (.tmp 4) rfl w.heap.size (.slice none 0 0) [] rfl (Own.nil _ _) A l.length c l rfl HNN.out HCL.out (by simp; omega) (Nat.le_refl _) ?_)
  intro v1 w1 hown1 hg1
  replace hown1 : Own w1 w.heap.size v1 l := hown1
  have hB1 : Below w.heap.size w w1 := (Below.refl _ _).grown hg1 (Nat.le_refl _) (by simp [Value.ownBlock])
  have HO1 := Lib.hid hown1
  clear hown1 hg1
  have hs1 := hB1.size
  go_wp2_with (at_builtin; refine append27 rfl (.tmp 6) (.tmp 9) rfl w.heap.size v1 l rfl (HO1.out.alloc _) ⟨w1.heap.size, 0, none⟩ 2 2 [mk9, mk9] rfl rfl (HLIT.out w1) (by simp; omega) (by simp; omega) ?_)
  intro v2 w2 hown2 hg2
  obtain ⟨g, cap, hv, hcap, hcm, hB2⟩ := KEY.out v1 w1 HO1.out hB1 v2 w2 hown2 hg2
  rw [hv] at hown2 ⊢
  have HO2 := Lib.hid hown2
  clear hown2 hg2 hv hB1
  go_wp2
  go_ret
  exact ⟨g, cap, by simp, hcap, HO2.out, hB2⟩

/-! ### is what Ready answers the document's? -/
theorem C_suffix {w : World} {ad : Addr} {n : Nat} {l r : List S27} (h : Kd.C k27 w (some ad) n (l ++ r)) : Kd.C k27 w (some (ad.add (l.length * 3))) r.length r := by
  have h1 := h.1
  rw [List.length_append] at h1
  refine ⟨rfl, by have := h.2.1; omega, fun hp => ?_⟩
  obtain ⟨ad', e, hc⟩ := h.2.2 (by omega)
  obtain rfl := Option.some.inj e
  refine ⟨_, rfl, fun j p hj => ?_⟩
  obtain ⟨c, h1, h2, h3⟩ := hc (l.length + j) p (by rw [List.getElem?_append_right (by omega), Nat.add_sub_cancel_left]; exact hj)
  refine ⟨c, h1, h2, fun i u hu => ?_⟩
  rw [Deep.add_add]
  have e : l.length * 3 + (j * k27.sz + i) = (l.length + j) * k27.sz + i := by show l.length * 3 + (j * 3 + i) = (l.length + j) * 3 + i; omega
  rw [e]; exact h3 i u hu
theorem mk9_at (l : List S27) (j : Nat) (hj : j < 2) : rd_T27 [mk9, mk9] (j : Int) = mk9 := by
  have : j = 0 ∨ j = 1 := by omega
  rcases this with rfl | rfl <;> rfl

set_option maxHeartbeats 2000000 in
set_option maxRecDepth 100000 in
theorem ready10 (n me floor : Int) (g cap : Nat) (A : Option Addr) (c : Nat) (l : List S27) (w : World) (hA : Kd.C k27 w A l.length l) (hc : l.length ≤ c) (hcap : l.length + 2 ≤ cap) (hlen : l.length ≤ 5864062014806) (hO : ∃ B, Own w B (.slice (some ⟨g, 0, none⟩) (l.length + 2) cap) (l ++ [mk9, mk9])) :
    Calls Try.prog 10 #[.int .i64 n, .int .i64 me, .int .i64 floor, .slice (some ⟨g, 0, none⟩) l.length cap, .slice A l.length c] w fun e w' => e = .returned (.bool true) ∧ Below w.heap.size w w' := by
  obtain ⟨B, hO⟩ := hO
  obtain ⟨A', c', e', hCall, _⟩ := hO.reads (by simp; omega)
  injection e' with e1 e2 e3
  subst e1 e3
  rw [show (l ++ [mk9, mk9]).length = l.length + 2 by simp] at hCall
  have HP := Lib.hid (C_prefix hCall)
  have HS := Lib.hid (C_suffix hCall)
  have hC := Lib.hid hA
  clear hA hO hCall e2
  have HRA := Lib.hid (ready_any n me floor (some ⟨g, 0, none⟩) cap l w HP.out)
  have HRB := Lib.hid (fun w2 h => refready_any n me floor A c l w2 h hc)
  obtain ⟨p, hp⟩ : ∃ p, readyS n me floor l = p := ⟨_, rfl⟩
  obtain ⟨a, b, e⟩ := p
  rw [hp] at HRA HRB
  unfold tup at HRA HRB
  dsimp only at HRA HRB
  clear hp
  go_enter Try.func10, Try.ntmps10
  go_wp2_with fail
  refine HRA.out.mono ?_
  rintro e1 w1 ⟨rfl, hB1⟩
  clear HRA
  go_wp2_with fail
  refine (HRB.out _ (Kd.C_below hC.out hB1)).mono ?_
  rintro e2 w2 ⟨rfl, hB2'⟩
  have hB2 : Below w.heap.size w w2 := hB1.trans (hB2'.mono hB1.size)
  clear HRB hB1 hB2'
  go_wp2
  go_loopw [53] (fun i wr => ∃ k : Nat, k ≤ l.length ∧ i = .int .i64 k ∧ Below w.heap.size w wr) (fun i _ => l.length - (intOf i).toNat)
  case atStart => exact ⟨0, Nat.zero_le _, rfl, hB2⟩
  case round =>
    clear hB2
    obtain ⟨k, hk, rfl, hB⟩ := hrel
    by_cases hlt : k < l.length
    · obtain ⟨ad, ha, g0, g1, g2⟩ := at_T27 (Kd.C_below hC.out hB) (k : Int) (by omega) (by omega)
      subst ha
      obtain ⟨ad', ha', r0, r1, r2⟩ := at_T27 (Kd.C_below HP.out hB) (k : Int) (by omega) (by omega)
      obtain rfl := Option.some.inj ha'
      clear ha'
      simp only [Int.toNat_natCast] at g0 g1 g2
      simp only [Int.toNat_natCast, add_plain] at r0 r1 r2
      obtain ⟨y, hy⟩ : ∃ y, rd_T27 l (k : Int) = y := ⟨_, rfl⟩
      rw [hy] at g0 g1 g2 r0 r1 r2
      clear hy
      go_wp2
      go_quiet (fail)
      go_wp2
      go_roundw
      case rel => exact ⟨k + 1, by omega, by go_num, pw_below_drewN hB _⟩
      case measure => simp [intOf]; omega
    · have hcc : ¬ cap = l.length := by omega
      go_wp2
      go_loopw [74] (fun i wr => ∃ k : Nat, k ≤ 2 ∧ i = .int .i64 k ∧ Below w.heap.size w wr) (fun i _ => 2 - (intOf i).toNat)
      case atStart => exact ⟨0, Nat.zero_le _, rfl, hB⟩
      case round =>
        clear hB
        obtain ⟨k, hk, rfl, hB⟩ := hrel
        by_cases hlt : k < 2
        · obtain ⟨ad', ha', r0, r1, r2⟩ := at_T27 (Kd.C_below HS.out hB) (k : Int) (by omega) (by simp; omega)
          obtain rfl := Option.some.inj ha'
          clear ha'
          rw [mk9_at l k hlt] at r0 r1 r2
          simp only [Int.toNat_natCast, mk9, Addr.add_lit, Nat.zero_add] at r0 r1 r2
          go_wp2
          go_roundw
          case rel => exact ⟨k + 1, by omega, by go_num, hB.alloc hB.size _⟩
          case measure => simp [intOf]; omega
        · go_wp2
          go_ret
          exact ⟨rfl, hB⟩
end Go.Proofs.Ytkgamiojoekegaa.Ch
