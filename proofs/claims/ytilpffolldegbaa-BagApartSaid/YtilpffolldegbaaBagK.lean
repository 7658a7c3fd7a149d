/- What the laws on bags look with: samePackets; the document's examples. Conditions: none. -/
import Derived.Test.YtilpffolldegbaaBagJ
import Derived.Lib.SlBytesConst
import Derived.Lib.SmallJoins
namespace Go.Proofs.Ytilpffolldegbaa.Bg
open Go.RowKit Go.Proofs.Ytilpffolldegbaa.Mem
set_option linter.unusedVariables false
set_option linter.unusedSimpArgs false

set_option maxHeartbeats 400000 in
set_option maxRecDepth 100000 in
theorem samePackets {H K : Nat → Prop} {ra rb : Option Nat} (ps : List Pk) (A B : Option Addr) (c d : Nat) (w : World) (hA : PR H w ra (.slice A ps.length c) ps) (hB : PR K w rb (.slice B ps.length d) ps) (hs : ∀ p ∈ ps, p.data.length ≤ 140737488355328) :
    Calls Try.prog 20 #[.slice A ps.length c, .slice B ps.length d] w fun e w' => e = .returned (.bool true) ∧ Fr No w w' := by
  have HA := Lib.hid hA
  have HB := Lib.hid hB
  have HS := Lib.hid hs
  have hm : ps.length ≤ maxLen := by obtain ⟨ch, h, _⟩ := hA; exact h.max
  unfold maxLen at hm
  obtain ⟨n, hn⟩ : ∃ n, ps.length = n := ⟨_, rfl⟩
  have HN := Lib.hid hn
  rw [hn] at HA HB hm ⊢
  clear hA hB hs hn
  go_enter Try.func20, Try.ntmps20
  go_wp2
  go_loopw [5] (fun i wr => ∃ k : Nat, k ≤ n ∧ i = .int .i64 k ∧ Hid (Fr No w wr)) (fun i _ => n - (intOf i).toNat)
  case atStart => exact ⟨0, Nat.zero_le _, rfl, Fr.refl _ _⟩
  case round =>
    obtain ⟨k, hk, rfl, HF⟩ := hrel
    by_cases hlt : k < n
    · have hkp : k < ps.length := by rw [HN.out]; exact hlt
      obtain ⟨r, c1, A1, cap, hr, hv, _, hl, hA1, x0, x1, x2, x3, x4, x5, xf⟩ := (HA.out.fr HF.out (fun _ _ q => q) (fun _ q => q.elim)).at_ k hkp
      obtain ⟨r', c2, A2, cap', hr', hv', _, hl', hA2, y0, y1, y2, y3, y4, y5, yf⟩ := (HB.out.fr HF.out (fun _ _ q => q) (fun _ q => q.elim)).at_ k hkp
      rw [HN.out] at hv hv'
      injection hv with e1 _ e3
      injection hv' with e1' _ e3'
      subst e1 e3 e1' e3'
      have HSP := Lib.hid (fun W (hw : Fr No wr W) => samePacket ps[k] A1 A2 cap cap' W (hA1.any.fr hw (fun _ _ _ q => q)) (hA2.any.fr hw (fun _ _ _ q => q)) (by have := HS.out ps[k] (List.getElem_mem _); omega))
      generalize ps[k] = p at *
      obtain ⟨num, fr, to, age, turned, data⟩ := p
      unfold Pk.cells at HSP
      dsimp only at *
      have hki : (k : Int) < (n : Int) := by omega
      have hw : IntKind.i64.wrap ((k : Int) + 1) = (k : Int) + 1 := IntWalk.i64_in _ (by omega)
      have d1 : decide ((k : Int) < (n : Int)) = true := decide_eq_true hki
      clear hA1 hA2 hl hl' hr hr' xf yf
      go_wp2
      go_still_tail 8, (by kernel_rfl)
      change wpList _ _ _ _ _ wr.drew
      generalize hw2 : wr.drew = w2
      have hF2 : Fr No wr w2 := by rw [← hw2]; exact (Fr.refl _ _).drew
      have HC := Lib.hid (HSP.out w2 hF2)
      have HF2 := Lib.hid (HF.out.then_ hF2)
      clear hw2 HSP HF hF2 x0 x1 x2 x3 x4 x5 y0 y1 y2 y3 y4 y5
      go_wp2_with fail
      refine HC.out.mono ?_
      rintro e w3 ⟨rfl, hF3⟩
      have HF3 := Lib.hid (HF2.out.then_ hF3)
      clear hF3 HC
      go_wp2
      go_roundw
      case rel => exact ⟨k + 1, by omega, by go_num, HF3⟩
      case measure => simp [intOf]; omega
    · obtain rfl : k = n := by omega
      go_wp2
      go_ret
      exact ⟨rfl, HF.out⟩

theorem ab_reads (D : Nat → Prop) (w : World) (fr : Nat × Nat) (hd : D w.heap.size) : BR D (w.alloc (.cells #[.int .u8 97, .int .u8 98] 5 fr)) (some ⟨w.heap.size, 0, none⟩) [97, 98] := fun j u hj => by
  refine ⟨_, rfl, hd, ?_⟩
  rw [add0, cell_of_row _ _ _ _ _ _ (heap_alloc_new w _)]
  match j, hj with
  | 0, hj | 1, hj => simp at hj; subst hj; rfl
  | j + 2, hj => simp at hj
/-- a whole packet is stored -/
theorem Fr.six {S : Nat → Prop} {w w1 : World} {b : Nat} (h : Fr S w w1) (hb : S b ∨ w.heap.size ≤ b) (u0 u1 u2 u3 u4 u5 : Value) :
    Fr S w ((((((w1.setCell ⟨b, 0, none⟩ u0).setCell ⟨b, 1, none⟩ u1).setCell ⟨b, 2, none⟩ u2).setCell ⟨b, 3, none⟩ u3).setCell ⟨b, 4, none⟩ u4).setCell ⟨b, 5, none⟩ u5) :=
  (((((h.set (p := ⟨b, 0, none⟩) hb _).set (p := ⟨b, 1, none⟩) hb _).set (p := ⟨b, 2, none⟩) hb _).set (p := ⟨b, 3, none⟩) hb _).set (p := ⟨b, 4, none⟩) hb _).set (p := ⟨b, 5, none⟩) hb _
theorem Bk.sixset {w : World} {b t : Nat} {x0 x1 x2 x3 x4 x5 : Value} (h : Bk w b t [x0, x1, x2, x3, x4, x5]) (u0 u1 u2 u3 u4 u5 : Value) :
    Bk ((((((w.setCell ⟨b, 0, none⟩ u0).setCell ⟨b, 1, none⟩ u1).setCell ⟨b, 2, none⟩ u2).setCell ⟨b, 3, none⟩ u3).setCell ⟨b, 4, none⟩ u4).setCell ⟨b, 5, none⟩ u5) b t [u0, u1, u2, u3, u4, u5] :=
  (((((h.set 0 u0).set 1 u1).set 2 u2).set 3 u3).set 4 u4).set 5 u5
/-- a bag that was made since w0 -/
structure Mine (H : Nat → Prop) (w0 w : World) (g : Nat) (rb : Option Nat) (s : St) : Prop where
  bag : Bag H w g rb s
  fr : Fr No w0 w
  hg : w0.heap.size ≤ g
  hr : ∀ k, rb = some k → w0.heap.size ≤ k
section
variable {H : Nat → Prop} {w0 w w1 : World} {g : Nat} {rb rb1 : Option Nat} {s s1 : St}
theorem Mine.sg (h : Mine H w0 w g rb s) : ∀ k, k < w0.heap.size → Sg g rb k → No k := fun k hk hs => by
  rcases hs with rfl | hs
  · have := h.hg; omega
  · have := h.hr k hs; omega
theorem Mine.step (h : Mine H w0 w g rb s) (hB : Bag H w1 g rb1 s1) (hF : Fr (Sg g rb) w w1) (hn : Nb w rb rb1) : Mine H w0 w1 g rb1 s1 :=
  ⟨hB, h.fr.trans hF h.sg, h.hg, fun k hk => by
    rcases hn with hn | ⟨q, hn, hq⟩
    · exact h.hr k (by rw [← hn]; exact hk)
    · rw [hn] at hk
      cases hk
      have := h.fr.size
      omega⟩
theorem Mine.quiet (h : Mine H w0 w g rb s) (hF : Fr No w w1) : Mine H w0 w1 g rb s := ⟨h.bag.below hF.to, h.fr.then_ hF, h.hg, h.hr⟩
theorem Mine.new (hB : Bag H w1 w.heap.size none s) (hF : Fr No w w1) (h0 : Fr No w0 w) : Mine H w0 w1 w.heap.size none s := ⟨hB, h0.then_ hF, h0.size, fun k h => by cases h⟩
end
theorem Bag.sgl {H : Nat → Prop} {w : World} {g : Nat} {rb : Option Nat} {s : St} (h : Bag H w g rb s) : ∀ k, Sg g rb k → k < w.heap.size := by
  have h0 := h.lt
  obtain ⟨v, h1, h2⟩ := h
  intro k hk
  rcases hk with rfl | hk
  · exact h0
  · exact (h2.bt hk).lt
set_option maxHeartbeats 1000000 in
set_option maxRecDepth 100000 in
theorem shown (w : World) : Calls Try.prog 8 #[] w fun e w' => e = .returned (.bool true) ∧ Fr No w w' := by
  have kc := fun (w : World) (C : Array Value) (n c : Nat) => Lib.run_convert_bytes_const (P := Try.prog) w 22 5 C n c Try.underlying22 Try.underlying5
  go_enter Try.func8, Try.ntmps8
  go_wp2_with fail
  refine (bNew_no 0 w (by omega)).mono ?_
  rintro e w1 ⟨rfl, rfl⟩
  go_wp2_with fail
  refine (bNew No 1 w1 (by omega) (by omega)).mono ?_
  rintro e w2 ⟨rfl, hB2, hF2⟩
  have M2 := Lib.hid (Mine.new hB2 hF2 (Fr.refl _ _))
  clear hB2 hF2
  go_wp2_with fail
  have hF3 : Fr No w2 (w2.alloc (.cells #[.int .u8 97, .int .u8 98] 5 (2, 3))) := (Fr.refl _ _).alloc _
  have M3 := Lib.hid (M2.out.quiet hF3)
  refine (bAdd (H := No) 0 8 (some ⟨w2.heap.size, 0, none⟩) 2 2 [97, 98] _ rfl (by omega) (ab_reads Any w2 (2, 3) trivial) (fun _ _ q => q) M3.out.bag (by decide) (by decide) (by decide)).mono ?_
  rintro e w4 ⟨rb4, rfl, hB4, hF4, hn4⟩
  rw [show addS ⟨1, 0, []⟩ 0 8 [97, 98] = (⟨1, 1, [⟨1, 0, 8, 0, 0, [97, 98]⟩]⟩, 0) from rfl] at hB4 ⊢
  have M4 := Lib.hid (M3.out.step hB4 hF4 hn4)
  clear hB4 hF4 hF3 hn4 M2 M3
  go_wp2_with fail
  refine (bDup (H := No) 0 w4 M4.out.bag (by decide) (by decide) (by decide)).mono ?_
  rintro e w5 ⟨rb5, rfl, hB5, hF5, hn5⟩
  rw [show dupS ⟨1, 1, [⟨1, 0, 8, 0, 0, [97, 98]⟩]⟩ 0 = (⟨1, 1, [⟨1, 0, 8, 0, 0, [97, 98]⟩]⟩, 155) from rfl] at hB5 ⊢
  have M5 := Lib.hid (M4.out.step hB5 hF5 hn5)
  clear hB5 hF5 hn5 M4
  go_wp2_with fail
  refine (bAt_some (H := No) (s := ⟨1, 1, [⟨1, 0, 8, 0, 0, [97, 98]⟩]⟩) 0 (by decide) w5 M5.out.bag (by decide) (fun _ _ q => q)).mono ?_
  rintro e w6 ⟨b, rfl, hb, hk6, hF6⟩
  have M6 := Lib.hid (M5.out.quiet hF6)
  have HK6 := Lib.hid hk6
  have hbl := hk6.lt
  unfold Pk.cells
  clear hF6 hk6 M5 hbl
  have kc2 := Joins.run_convert_bytes_const_at (P := Try.prog) (w6.alloc (.cells #[.int .i64 1, .int .i64 0, .int .i64 8, .int .i64 0, .int .i64 0, .slice (some ⟨b, 0, none⟩) 2 2] 31 (0, 0))) 22 5 #[.int .u8 97, .int .u8 98] 2 2 (w6.heap.size + 1) (by simp) Try.underlying22 Try.underlying5
  go_wp2_with fail
  obtain ⟨w7, hw7⟩ : ∃ w7, w6.alloc (.cells #[.int .i64 1, .int .i64 0, .int .i64 8, .int .i64 0, .int .i64 0, .slice (some ⟨b, 0, none⟩) 2 2] 31 (0, 0)) = w7 := ⟨_, rfl⟩
  have hF7 : Fr No w6 w7 := by rw [← hw7]; exact (Fr.refl _ _).alloc _
  have hs7 : w7.heap.size = w6.heap.size + 1 := by rw [← hw7]; simp
  have hF8 : Fr No w7 (w7.alloc (.cells #[.int .u8 97, .int .u8 98] 5 (2, 3))) := (Fr.refl _ _).alloc _
  have hab := ab_reads Any w7 (2, 3) trivial
  have hk7 := (HK6.out.fr hF7 id).fr hF8 id
  rw [hs7] at hab
  rw [hw7]
  refine (samePacket ⟨1, 0, 8, 0, 0, [97, 98]⟩ (some ⟨b, 0, none⟩) (some ⟨w6.heap.size + 1, 0, none⟩) 2 2 _ (BR.of_block hk7 trivial) hab (by decide)).mono ?_
  rintro e w9 ⟨rfl, hF9⟩
  have HF := Lib.hid (((M6.out.fr.then_ hF7).then_ hF8).then_ hF9)
  clear hF9 hF8 hF7 hab hk7 hw7 hs7 M6 HK6 kc2
  go_wp2
  go_ret
  exact ⟨rfl, HF.out⟩
end Go.Proofs.Ytilpffolldegbaa.Bg
