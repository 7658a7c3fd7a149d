/- How a tally lies, and what its iterator tells. Conditions: none. -/
import Derived.RangeFuncNested
import Derived.RangeFuncFrom
import Derived.RangeFuncBound
import Derived.RangeFuncCalls
import Derived.RangeFuncLeaves
import Derived.Shelf.Abstract
import Derived.Shelf.RegionOpen
import Derived.WalkKit
import Derived.OwnWalkIn
import Derived.TacticsInMore
import Derived.LoopNIn
import Derived.LoopIn
import Derived.Lib.Hide
import Derived.Below
import Derived.Test.YtobnehbcnlhchaaTrA
namespace Go.Proofs.Ytobnehbcnlhchaa.VtI
open Go.RowKit Go.Shelf
set_option linter.unusedVariables false
attribute [local go_sem] Oper.semAt_some

/-- a tally's cells -/
def cellsT (n : Int) (s : List (Bool × Int)) : List Value := .int .i64 n :: s.flatMap fun p => [.bool p.1, .int .i64 p.2]
/-- what has been said, rising -/
def saidT (s : List (Bool × Int)) (i : Nat) : List (Int × Int) := match s with
  | [] => []
  | p :: r => (if p.1 then [((i : Int), p.2)] else []) ++ saidT r (i + 1)

theorem saidT_append : ∀ (a b : List (Bool × Int)) (i : Nat), saidT (a ++ b) i = saidT a i ++ saidT b (i + a.length)
  | [], b, i => by simp [saidT]
  | p :: r, b, i => by
    show (if p.1 then [((i : Int), p.2)] else []) ++ saidT (r ++ b) (i + 1) = ((if p.1 then [((i : Int), p.2)] else []) ++ saidT r (i + 1)) ++ saidT b (i + (r.length + 1))
    rw [saidT_append r b (i + 1), List.append_assoc, show i + 1 + r.length = i + (r.length + 1) by omega]
theorem saidT_take (s : List (Bool × Int)) (k : Nat) (p : Bool × Int) (h : s[k]? = some p) : saidT (s.take (k + 1)) 0 = saidT (s.take k) 0 ++ (if p.1 then [((k : Int), p.2)] else []) := by
  obtain ⟨hk, e⟩ := List.getElem?_eq_some_iff.1 h
  rw [List.take_add_one, h, saidT_append]
  simp [saidT, Nat.min_eq_left (Nat.le_of_lt hk)]
theorem saidT_prefix (s : List (Bool × Int)) (k : Nat) : saidT (s.take k) 0 <+: saidT s 0 := by
  conv => rhs; rw [← List.take_append_drop k s, saidT_append]
  exact List.prefix_append _ _
theorem saidT_length : ∀ (s : List (Bool × Int)) (i : Nat), (saidT s i).length ≤ s.length
  | [], _ => Nat.le_refl _
  | p :: r, i => by
    have := saidT_length r (i + 1)
    unfold saidT
    split <;> simp <;> omega

theorem runArr (ar : Array Value) (k : Nat) (p : Bool × Int) (w : World) (h : k < 7) (hs : ar.size = 14) (he : ar.extract (k * 2) (k * 2 + 2) = #[.bool p.1, .int .i64 p.2]) :
    (Instr.index 93 (.agg ar) (.int .i64 (k : Int))).run Try.prog w = .ok (.agg #[.bool p.1, .int .i64 p.2]) w := by
  have hu : Try.prog.underlying 93 = some (.array 7 92) := by kernel_rfl
  have hel : Try.prog.elem 93 = 92 := by kernel_rfl
  simp [Instr.index, run_underlying hu, asIntOf, go_sem, h]
  exact he

set_option maxHeartbeats 2000000 in
set_option maxRecDepth 100000 in
theorem all1_in (F : Fence) (n : Nat) (hF : F.fn 65) (hro : F.round = none) (hn : 1 ≤ n) (l Bp g n₀ : Nat) (q : Int) (s : List (Bool × Int)) (hs : s.length = 7) (J Jx : List (Int × Int) → World → Prop)
    (W : World) (hJ : AbidesFrom W.heap.size J)
    (hY : ∀ pre x W, J pre W → pre.length < 7 → x ∈ saidT s 0 → YieldAt F (n - 1) Try.prog l #[.int .i64 x.1, .int .i64 x.2] W fun e W' =>
      (e = .returned (.bool true) ∧ J (pre ++ [x]) W' ∧ Below n₀ W W') ∨ (e = .returned (.bool false) ∧ Jx (pre ++ [x]) W'))
    (hn₀ : n₀ ≤ W.heap.size)
    (hBp : W.cell? ⟨Bp, 0, none⟩ = some (.pointer (some ⟨g, 0, none⟩))) (hg : W.heap[g]? = some (.cells (cellsT q s).toArray 95 (0, 0))) (h0 : J [] W) :
    CallsIn F n Try.prog 65 #[.func (.yield l) #[] #[], .pointer (some ⟨Bp, 0, none⟩)] W fun e W' => (∃ v, e = .returned v) ∧
      ((∃ ys, ys = saidT s 0 ∧ J ys W') ∨ (∃ pre, pre <+: saidT s 0 ∧ Jx pre W')) := by
  match s, hs with
  | [p0, p1, p2, p3, p4, p5, p6], _ =>
    have c1 := Blk.cell hg 1
    have c2 := Blk.cell hg 2
    have c3 := Blk.cell hg 3
    have c4 := Blk.cell hg 4
    have c5 := Blk.cell hg 5
    have c6 := Blk.cell hg 6
    have c7 := Blk.cell hg 7
    have c8 := Blk.cell hg 8
    have c9 := Blk.cell hg 9
    have c10 := Blk.cell hg 10
    have c11 := Blk.cell hg 11
    have c12 := Blk.cell hg 12
    have c13 := Blk.cell hg 13
    have c14 := Blk.cell hg 14
    simp [cellsT] at c1 c2 c3 c4 c5 c6 c7 c8 c9 c10 c11 c12 c13 c14
    refine callsIn_of_wp Try.func65 rfl hF ?_ hro
    simp only [Try.ntmps65, List.size_toArray, List.length_cons, List.length_nil, Nat.reduceAdd, Nat.reduceSub, Array.replicate_succ, Array.replicate_zero, List.push_toArray, List.append_toArray, List.nil_append, List.cons_append]
    gi_wp2
    obtain ⟨s, hsd⟩ : ∃ s, [p0, p1, p2, p3, p4, p5, p6] = s := ⟨_, rfl⟩
    have hsl : s.length = 7 := by rw [← hsd]; rfl
    have HSD := Lib.hid hsd
    have HAR := Lib.hid (fun (k : Nat) (p : Bool × Int) (hk : s[k]? = some p) => show (#[Value.bool p0.1, .int .i64 p0.2, .bool p1.1, .int .i64 p1.2, .bool p2.1, .int .i64 p2.2, .bool p3.1, .int .i64 p3.2, .bool p4.1, .int .i64 p4.2, .bool p5.1, .int .i64 p5.2, .bool p6.1, .int .i64 p6.2] : Array Value).extract (k * 2) (k * 2 + 2) = #[.bool p.1, .int .i64 p.2] by
      rw [← hsd] at hk
      match k, hk with
      | 0, hk | 1, hk | 2, hk | 3, hk | 4, hk | 5, hk | 6, hk => simp at hk; subst hk; rfl
      | k + 7, hk => simp at hk)
    generalize har : (#[Value.bool p0.1, .int .i64 p0.2, .bool p1.1, .int .i64 p1.2, .bool p2.1, .int .i64 p2.2, .bool p3.1, .int .i64 p3.2, .bool p4.1, .int .i64 p4.2, .bool p5.1, .int .i64 p5.2, .bool p6.1, .int .i64 p6.2] : Array Value) = ar at HAR ⊢
    have has : ar.size = 14 := by rw [← har]; rfl
    clear har c1 c2 c3 c4 c5 c6 c7 c8 c9 c10 c11 c12 c13 c14 hg hsd
    have hJ1 : J [] (W.alloc (.cells ar 93 (0, 0))) := hJ _ _ _ none h0 (World.grownBy_alloc W _ none) (fun r e => by cases e)
    gi_loopw [11] (fun i wr => ∃ k : Nat, k ≤ 7 ∧ i = .int .i64 k ∧ Hid (J (saidT (s.take k) 0) wr)) (fun i _ => 7 - (intOf i).toNat)
    case atStart => exact ⟨0, Nat.zero_le _, rfl, hJ1⟩
    case round =>
      clear hJ1
      obtain ⟨k, hk, rfl, HJ⟩ := hrel
      by_cases hlt : k < 7
      · obtain ⟨p, hp⟩ : ∃ p, s[k]? = some p := ⟨_, List.getElem?_eq_getElem (by omega)⟩
        have he := HAR.out k p hp
        have HP := Lib.hid (saidT_take s k p hp)
        have hJa := Lib.hid (fun o => hJ _ _ _ none HJ.out (World.grownBy_alloc wr o none) (fun r e => by cases e))
        have hix : ∀ w : World, (Instr.index 93 (.agg ar) (.int .i64 (k : Int))).run Try.prog w = .ok (.agg #[.bool p.1, .int .i64 p.2]) w := fun w => runArr ar k p w hlt has he
        have HL := saidT_length (s.take k) 0
        rw [List.length_take, hsl] at HL
        clear he hp
        obtain ⟨pb, v⟩ := p
        cases pb with
        | true =>
          have hmem : ((k : Int), v) ∈ saidT [p0, p1, p2, p3, p4, p5, p6] 0 := by
            rw [HSD.out]
            have h1 := (saidT_prefix s (k + 1)).subset
            rw [HP.out] at h1
            exact h1 (by simp)
          obtain ⟨fn, tmps, assign, body, hy, hR⟩ := hY _ ((k : Int), v) (wr.alloc (.cells #[.bool true, .int .i64 v] 92 (0, 0))) (hJa.out _) (by omega) hmem
          clear hmem
          dsimp only at hy hix
          gi_wp2
          refine hR.mono ?_
          rintro e W3 (⟨rfl, hJ3, hk3⟩ | ⟨rfl, hJx3⟩)
          · have HJ3 := Lib.hid hJ3
            clear hJ3 hR hy
            gi_wp2
            go_roundw
            case rel => exact ⟨k + 1, by omega, by simp, by show J _ _; rw [HP.out]; exact HJ3.out⟩
            case measure => simp [intOf]; omega
          · clear hR hy
            have HPF := Lib.hid (show saidT (s.take k) 0 ++ [((k : Int), v)] <+: saidT [p0, p1, p2, p3, p4, p5, p6] 0 by
              rw [HSD.out]
              have := saidT_prefix s (k + 1)
              rw [HP.out] at this
              simpa using this)
            gi_wp2
            refine bodyPost_ret (results_none rfl _ _ _) rfl ?_
            exact ⟨⟨_, rfl⟩, .inr ⟨_, HPF.out, hJx3⟩⟩
        | false =>
          dsimp only at hix
          gi_wp2
          refine ⟨fun _ h => (by cases h), ?_⟩
          gi_wp2
          go_roundw
          case rel => exact ⟨k + 1, by omega, by simp, by show J _ _; rw [HP.out]; simpa using hJa.out _⟩
          case measure => simp [intOf]; omega
      · obtain rfl : k = 7 := by omega
        gi_wp2
        go_end0
        exact ⟨⟨_, rfl⟩, .inl ⟨_, rfl, by have := HJ.out; rw [← hsl, List.take_length, ← HSD.out] at this; exact this⟩⟩

/-- a tally lies in block g -/
def Tl (w : World) (g : Nat) (q : Int) (s : List (Bool × Int)) : Prop := w.heap[g]? = some (.cells (cellsT q s).toArray 95 (0, 0)) ∧ s.length = 7
theorem Tl.lt {w : World} {g : Nat} {q : Int} {s : List (Bool × Int)} (h : Tl w g q s) : g < w.heap.size := Blk.lt h.1
theorem Tl.keep {w w' : World} {g : Nat} {q : Int} {s : List (Bool × Int)} (h : Tl w g q s) (hb : w'.heap[g]? = w.heap[g]?) : Tl w' g q s := ⟨hb.trans h.1, h.2⟩

theorem tally_stops (F : Fence) (n : Nat) (hF : F.fn 65) (hro : F.round = none) (hn : 1 ≤ n) (Bp g n₀ : Nat) (q : Int) (s : List (Bool × Int)) (w : World) (hT : Tl w g q s) (hn₀ : n₀ ≤ w.heap.size) (hB : Bp < w.heap.size)
    (hBp : w.cell? ⟨Bp, 0, none⟩ = some (.pointer (some ⟨g, 0, none⟩))) :
    SeqStopsK F n Try.prog 65 #[.pointer (some ⟨Bp, 0, none⟩)] (fun x : Int × Int => #[Value.int .i64 x.1, .int .i64 x.2]) (Below n₀) (fun ys => ys = saidT s 0) (fun pre => pre <+: saidT s 0) 7 w := fun l J Jx W hW hJ hJx hY h0 => by
  exact all1_in F n hF hro hn l Bp g n₀ q s hT.2 J Jx W hJ (fun pre x W h1 h2 _ => hY pre x W h1 h2) (Nat.le_trans hn₀ hW.size) ((hW.cell (p := ⟨Bp, 0, none⟩) hB).trans hBp) ((hT.keep (hW.block g hT.lt)).1) h0
/-- the same, the rounds being told that what comes is one of what has been said -/
theorem tally_stops_mem (F : Fence) (n : Nat) (hF : F.fn 65) (hro : F.round = none) (hn : 1 ≤ n) (Bp g n₀ : Nat) (q : Int) (s : List (Bool × Int)) (w : World) (hT : Tl w g q s) (hn₀ : n₀ ≤ w.heap.size) (hB : Bp < w.heap.size)
    (hBp : w.cell? ⟨Bp, 0, none⟩ = some (.pointer (some ⟨g, 0, none⟩))) :
    SeqStopsK F n Try.prog 65 #[.pointer (some ⟨Bp, 0, none⟩)] (fun x : {x : Int × Int // x ∈ saidT s 0} => #[Value.int .i64 x.1.1, .int .i64 x.1.2]) (Below n₀) (fun ys => ys.map Subtype.val = saidT s 0) (fun pre => pre.map Subtype.val <+: saidT s 0) 7 w := fun l J Jx W hW hJ hJx hY h0 => by
  have h := all1_in F n hF hro hn l Bp g n₀ q s hT.2 (fun p W => ∃ ys : List {x : Int × Int // x ∈ saidT s 0}, ys.map Subtype.val = p ∧ J ys W) (fun p W => ∃ ys : List {x : Int × Int // x ∈ saidT s 0}, ys.map Subtype.val = p ∧ Jx ys W) W
    (fun p A B row ⟨ys, hy, hj⟩ hg hr => ⟨ys, hy, hJ ys A B row hj hg hr⟩)
    (fun pre x W1 ⟨ys, hy, hj⟩ hlen hmem => by
      obtain ⟨fn, tmps, assign, body, h1, h2⟩ := hY ys ⟨x, hmem⟩ W1 hj (by rw [← hy, List.length_map] at hlen; exact hlen)
      refine ⟨fn, tmps, assign, body, h1, h2.mono ?_⟩
      rintro e W' (⟨r1, r2, r3⟩ | ⟨r1, r2⟩)
      · exact .inl ⟨r1, ⟨ys ++ [⟨x, hmem⟩], by rw [List.map_append, hy]; rfl, r2⟩, r3⟩
      · exact .inr ⟨r1, ⟨ys ++ [⟨x, hmem⟩], by rw [List.map_append, hy]; rfl, r2⟩⟩)
    (Nat.le_trans hn₀ hW.size) ((hW.cell (p := ⟨Bp, 0, none⟩) hB).trans hBp) ((hT.keep (hW.block g hT.lt)).1) ⟨[], rfl, h0⟩
  refine h.mono ?_
  rintro e W' ⟨h1, h2⟩
  refine ⟨h1, ?_⟩
  rcases h2 with ⟨p, hp, ys, hy, hj⟩ | ⟨p, hp, ys, hy, hj⟩
  · exact .inl ⟨ys, hy.trans hp, hj⟩
  · exact .inr ⟨ys, show ys.map Subtype.val <+: saidT s 0 by rw [hy]; exact hp, hj⟩

theorem newc (W : World) (v : Value) (t : TypeId) : (W.alloc (.cells #[v] t (0, 0))).cell? ⟨W.heap.size, 0, none⟩ = some v ∧ (W.alloc (.cells #[v] t (0, 0))).frozen? ⟨W.heap.size, 0, none⟩ = false := by
  have h := Blk.new W (.cells #[v] t (0, 0))
  exact ⟨(Blk.cell h 0).trans rfl, Blk.frozen h 0⟩
theorem newc2 (W : World) (v u : Value) (t t' : TypeId) : ((W.alloc (.cells #[v] t (0, 0))).alloc (.cells #[u] t' (0, 0))).cell? ⟨W.heap.size, 0, none⟩ = some v ∧ ((W.alloc (.cells #[v] t (0, 0))).alloc (.cells #[u] t' (0, 0))).frozen? ⟨W.heap.size, 0, none⟩ = false := by
  have h := Blk.alloc (Blk.new W (.cells #[v] t (0, 0))) (.cells #[u] t' (0, 0))
  exact ⟨(Blk.cell h 0).trans rfl, Blk.frozen h 0⟩

theorem all_in (F : Fence) (n : Nat) (hF : F.fn 53) (hro : F.round = none) (p : Option Addr) (w : World) :
    CallsIn F n Try.prog 53 #[.pointer p] w fun e w' => e = .returned (.func (.func 65) #[] #[.pointer (some ⟨w.heap.size, 0, none⟩)]) ∧ w' = w.alloc (.cells #[.pointer p] 40 (0, 0)) := by
  refine callsIn_of_wp Try.func53 rfl hF ?_ hro
  simp only [Try.ntmps53, List.size_toArray, List.length_cons, List.length_nil, Nat.reduceAdd, Nat.reduceSub, Array.replicate_succ, Array.replicate_zero, List.push_toArray, List.append_toArray, List.nil_append, List.cons_append]
  gi_wp2
  go_ret
  exact ⟨rfl, rfl⟩

set_option maxHeartbeats 2000000 in
set_option maxRecDepth 100000 in
theorem count_in (F : Fence) (n : Nat) (h65 : F.fn 31) (h75 : F.fn 53) (h77 : F.fn 65) (hro : F.round = none) (hn : 3 ≤ n) (g : Nat) (q : Int) (s : List (Bool × Int)) (w : World) (hT : Tl w g q s) :
    CallsIn F n Try.prog 31 #[.pointer (some ⟨g, 0, none⟩)] w fun e w' => e = .returned (.int .i64 (saidT s 0).length) ∧ Below w.heap.size w w' := by
  have h1 : 1 ≤ n := by omega
  refine callsIn_of_wp_marks Try.func31 rfl h65 ?_ hro
  simp only [Try.ntmps31, List.size_toArray, List.length_cons, List.length_nil, Nat.reduceAdd, Nat.reduceSub, Array.replicate_succ, Array.replicate_zero, List.push_toArray, List.append_toArray, List.nil_append, List.cons_append]
  gi_wp2_with (gi_at_call 53; refine (all_in F (n - 1) h75 hro _ _).mono ?_; rintro e w' ⟨rfl, rfl⟩)
  have hs := newc2 w (.int .i64 0) (.pointer (some ⟨g, 0, none⟩)) 3 40
  have hb := newc (w.alloc (.cells #[.int .i64 0] 3)) (.pointer (some ⟨g, 0, none⟩)) 40
  rw [World.size_alloc] at hb
  have hB0 : Below w.heap.size w ((w.alloc (.cells #[.int .i64 0] 3)).alloc (.cells #[.pointer (some ⟨g, 0, none⟩)] 40)) := ((Below.refl _ w).alloc (Nat.le_refl _) _).alloc (by simp) _
  refine wpIn_rangeFunc_ownF hro h1 (gf := 65) (lb := #[.pointer (some ⟨w.heap.size + 1, 0, none⟩)]) rfl h77 (enters_of Try.func65 (by kernel_rfl) rfl)
    (tally_stops F (n - 1) h77 hro (by omega) (w.heap.size + 1) g w.heap.size q s _ (hT.keep (hB0.block g hT.lt)) (by simp; omega) (by simp) hb.1) belowK_t (belowK_b (by simp; omega)) (Below.refl _ _) (fun _ => rfl)
    (fun pre W => (W.cell? ⟨w.heap.size, 0, none⟩ = some (.int .i64 (pre.length : Nat)) ∧ W.frozen? ⟨w.heap.size, 0, none⟩ = false) ∧ Below w.heap.size w W)
    (fun _ _ _ => False)
    (OwnFrom.and (Own.from (fun s A B row hs hg hr => ⟨cell_kept hs.1 hg hr, (frozen_kept hs.1 hg hr).trans hs.2⟩) _) (ownFrom_below (Nat.le_refl _) (by simp; omega)))
    (fun _ _ _ _ _ hs _ _ => hs)
    ⟨hs, hB0⟩
    (fun x => { tmps := #[.pointer (some ⟨g, 0, none⟩), undef, .int .i64 0, .pointer (some ⟨w.heap.size, 0, none⟩), .pointer (some ⟨g, 0, none⟩), .func (.func 65) #[] #[.pointer (some ⟨w.heap.size + 1, 0, none⟩)], .int .i64 x.1, .int .i64 x.2, undef, undef, undef], defers := [] }) ?assign ?body ?done ?stop
  case assign =>
    intro l x W K hK
    gi_wp2
    first | exact hK | (go_simp; exact hK) | (simpa using hK)
  case body =>
    rintro l pre x W ⟨⟨hc, hf⟩, hB⟩ hlen
    have hw : IntKind.i64.wrap ((pre.length : Int) + 1) = (pre.length : Int) + 1 := IntWalk.i64_in _ (by omega)
    gi_wp2
    exact ⟨KeepsOthers.setCell _ _ _, (Below.refl w.heap.size W).setCell (p := ⟨w.heap.size, 0, none⟩) (Nat.le_refl _) _, ⟨by rw [List.length_append]; exact World.cell?_setCell_same' _ _ _ (by rw [hc]; rfl), by rw [World.frozen?_setCell]; exact hf⟩, hB.setCell (p := ⟨w.heap.size, 0, none⟩) (Nat.le_refl _) _⟩
  case done =>
    rintro D ys W hD rfl ⟨⟨hc, _⟩, hB⟩ hK
    gi_wp2
    refine ⟨by simp, .inl ⟨_, _, rfl, run_takeDeferred hK, ?_⟩⟩
    exact ⟨_, results_tmp rfl _ _ _, rfl, hB.trans (belowK_b (w := w) (Nat.le_refl _) W D _ _ (by simp at hD; omega) hK rfl rfl)⟩
  case stop =>
    rintro D c pre W _ _ h _
    exact h.elim

theorem countT (g : Nat) (q : Int) (s : List (Bool × Int)) (w : World) (hT : Tl w g q s) :
    Calls Try.prog 31 #[.pointer (some ⟨g, 0, none⟩)] w fun e w' => e = .returned (.int .i64 (saidT s 0).length) ∧ Below w.heap.size w w' :=
  (callsIn_wide (n := 3)).1 (count_in Fence.wide 3 trivial trivial trivial rfl (by omega) g q s w hT)
end Go.Proofs.Ytobnehbcnlhchaa.VtI
