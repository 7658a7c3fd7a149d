/- The helper 'some' of the laws on ballots: so many of a list, in an order that picks tell. Conditions: lists of at most 7 places. -/
import Derived.Test.YtobnehbcnlhchaaTrBM
import Derived.Deep.RegionLaw
import Derived.Deep.DeepCutAuto
namespace Go.Proofs.Ytobnehbcnlhchaa.Be
open Go.RowKit Go.Proofs.YtobnehbcnlhchaaW.PrintWords Go.Proofs.Ytobnehbcnlhchaa.PChooseTurned
set_option linter.unusedVariables false

/-- 'among' -/
def amongS (i n : Int) : Int := if n < 1 then 0 else i % n
theorem among_f (i n : Int) (hn : n ≤ 1000) (hi : (Lit.int .i64 i).wf = true) : PChooseTurned.flotillalaw12_among.f i n = some (amongS i n) := by
  have hx : -9223372036854775808 ≤ i ∧ i ≤ 9223372036854775807 := by simpa [Lit.wf, IntKind.min, IntKind.max, IntKind.signed, IntKind.bits] using hi
  unfold PChooseTurned.flotillalaw12_among.f amongS
  by_cases h1 : n < 1
  · rw [if_pos h1, if_pos h1]
  · rw [if_neg h1, if_neg h1, if_neg (by omega)]
    have hdec := Int.mul_tdiv_add_tmod i n
    have hlo : -n < Int.tmod i n := Int.lt_tmod_of_pos i (by omega)
    have hhi : Int.tmod i n < n := Int.tmod_lt_of_pos i (by omega)
    have he : i % n = Int.tmod i n % n := by
      conv => lhs; rw [← hdec]
      rw [Int.add_comm, Int.add_mul_emod_self_left]
    by_cases h2 : Int.tmod i n < 0
    · rw [if_pos h2, he, show wrap64 (Int.tmod i n + n) = Int.tmod i n + n from by unfold wrap64; omega]
      rw [← Int.add_emod_right, Int.emod_eq_of_lt (by omega) (by omega)]
    · rw [if_neg h2, he, Int.emod_eq_of_lt (by omega) (by omega)]
theorem among15 (i : Int) (n : Nat) (w : World) (h0 : 0 < n) (hn : n ≤ 1000) (hi : (Lit.int .i64 i).wf = true) : Calls Try.prog 24 #[.int .i64 i, .int .i64 n] w fun e w' => (∃ k : Nat, k < n ∧ e = .returned (.int .i64 k)) ∧ Below w.heap.size w w' := by
  refine (PChooseTurned.flotillalaw12_among.calls i n _ w (among_f i n (by omega) hi)).mono ?_
  rintro e w' ⟨rfl, hd⟩
  have h1 : amongS i n = i % n := by rw [amongS, if_neg (by omega)]
  have h2 := Int.emod_nonneg i (show (n : Int) ≠ 0 by omega)
  have h3 := Int.emod_lt_of_pos i (show (0 : Int) < n by omega)
  refine ⟨⟨(i % n).toNat, by omega, ?_⟩, hd.below⟩
  rw [h1]
  congr 2
  omega

/-- append(v, ys...) in a region that draws its order -/
theorem step62 {w : World} {ops : Array Oper} {o : Oper} {a : Act} {K : Act → World → Prop} {Q : Exit → Act → World → Prop} {E : Prop} (hgd : o.guard = none) (s x : Operand)
    (ho : o.op = .call { callee := .builtin .append, args := #[s, x], argTypes := #[56, 56] }) (base : Nat)
    (v : Value) (l : List S62) (hs : a.eval s = v) (hown : Own w base v l) (ad : Addr) (m c : Nat) (ys : List S62) (hx : a.eval x = .slice (some ad) m c) (hl : ys.length = m)
    (hnews : ∀ j u, (cells62 ys)[j]? = some u → w.cell? (ad.add j) = some u) (hbytes : (l.length + ys.length) * 32 ≤ 140737488355328) (hbase : base ≤ w.heap.size)
    (h : ∀ v' w', Own w' base v' (l ++ ys) → w.grownBy w' v.ownBlock → K (a.put o.dst v') w') : if Region.wanted o (yielded ops a.tmps) = true then Oper.wp Try.prog o a w K Q else E := by
  have hw : Region.wanted o (yielded ops a.tmps) = true := by simp [Region.wanted, hgd]
  rw [if_pos hw]
  obtain ⟨i, hi, hz, h1, h2⟩ := info62'
  subst hl
  refine wp_append_own w s x 56 ho base 62 i _ 4 32 Try.underlying56 hi hz h1 h2 rfl (by omega) v l.length (cells62 l) hs hown ad ys.length c (cells62 ys) hx (cells62_length ys) hnews (cells62_one ys) (by unfold maxLen; omega) hbytes hbase ?_
  intro v' w' ho' hg _
  exact h v' w' (by unfold Own; rw [List.length_append, cells62_append]; exact ho') hg

theorem perm_step (O R l : List S62) (i : Nat) (hi : i < R.length) (h : (O ++ R).Perm l) : ((O ++ [rd_T62 R (i : Int)]) ++ (R.take i ++ R.drop (i + 1))).Perm l := by
  have h1 : (rd_T62 R (i : Int) :: (R.take i ++ R.drop (i + 1))).Perm R := by
    have h2 : (R.take i ++ rd_T62 R (i : Int) :: R.drop (i + 1)).Perm (rd_T62 R (i : Int) :: (R.take i ++ R.drop (i + 1))) := List.perm_middle
    rw [← drop_at R i hi, List.take_append_drop] at h2
    exact h2.symm
  rw [List.append_assoc]
  exact (h1.append_left O).trans h

theorem at_int {w : World} {A : Option Addr} {n : Nat} {xs : List Int} (h : Kd.C (Kd.int .i64) w A n xs) (i : Nat) (hi : i < n) : ∃ ad, A = some ad ∧ w.cell? (ad.add i) = some (.int .i64 (xs.getD i 0)) := by
  obtain ⟨ad, c, e, hl, hK, hc⟩ := Kd.C_get h 0 (i : Int) (by omega) (by omega)
  refine ⟨ad, e, ?_⟩
  have hK' : c = [.int .i64 (xs.getD i 0)] := hK
  have := hc 0 (.int .i64 (xs.getD i 0)) (by rw [hK']; rfl)
  have e1 : (i : Int).toNat * (Kd.int .i64).sz + 0 = i := by show i * 1 + 0 = i; omega
  rwa [e1] at this

theorem Own.lower {w : World} {b b' : Nat} {v : Value} {l : List S62} (h : Own w b v l) (hb : b' ≤ b) : Own w b' v l := by
  refine ⟨h.1, ?_⟩
  rcases h.2 with h0 | ⟨g, cap, cur, e, hg, r⟩
  · exact .inl h0
  · exact .inr ⟨g, cap, cur, e, by omega, r⟩
theorem Own.move {w w1 : World} {b : Nat} {v : Value} {l : List S62} (h : Own w b v l) (hm : ∀ k, v.ownBlock = some k → w1.heap[k]? = w.heap[k]?) : Own w1 b v l := own_move h hm
theorem Own.ltH {w : World} {b : Nat} {v : Value} {l : List S62} (h : Own w b v l) (k : Nat) (hk : v.ownBlock = some k) : k < w.heap.size := own_lt h k hk
theorem C_take {w : World} {A : Option Addr} {n : Nat} {l : List S62} (h : Kd.C k62 w A n l) (i : Nat) : Kd.C k62 w A (l.take i).length (l.take i) := by
  rw [← List.take_append_drop i l] at h
  exact C_prefix h
theorem C_drop {w : World} {ad : Addr} {n : Nat} {l : List S62} (h : Kd.C k62 w (some ad) n l) (i : Nat) (hi : i ≤ l.length) : Kd.C k62 w (some (ad.add (i * 4))) (l.drop i).length (l.drop i) := by
  rw [← List.take_append_drop i l] at h
  have h1 := C_suffix h
  rwa [show (l.take i).length = i by simp; omega] at h1

theorem undrew {w w' : World} {o : Option Nat} (h : w.drew.grownBy w' o) : w.grownBy w' o := ⟨h.os, h.tape, h.output, h.size, h.block⟩
theorem size62 (W : World) : (sizeOf 62).run Try.prog W = .ok 4 W := by
  obtain ⟨i, hi, _, h1, _⟩ := info62'
  simp [sizeOf, typeInfo, hi, h1]
theorem slice_to (g n c i : Nat) (h : i ≤ c) (W : World) : (Instr.slice 56 (.slice (some ⟨g, 0, none⟩) n c) none (some (.int .i64 (i : Int))) none).run Try.prog W = .ok (.slice (some ⟨g, 0, none⟩) i c) W := by
  have hel : Try.prog.elem 56 = 62 := by kernel_rfl
  have hu : Try.prog.underlying 56 = some (.slice (Try.prog.elem 56)) := by rw [hel]; exact Try.underlying56
  rw [run_slice_h W 56 (some ⟨g, 0, none⟩) n c hu .i64 (i : Int) (by omega) (by omega), hel, size62]
  simp [sliced, Result.andThen, add_plain]
theorem slice_from (a : Addr) (n c i : Nat) (h : i + 1 ≤ n) : ∃ a' : Addr, (∀ W : World, (Instr.slice 56 (.slice (some a) n c) (some (.int .i64 ((i : Int) + 1))) none none).run Try.prog W = .ok (.slice (some a') (n - (i + 1)) (c - (i + 1))) W) ∧
    ∀ (w : World) (R : List S62), R.length = n → n ≤ c → Kd.C k62 w (some a) n R → ∀ j u, (cells62 (R.drop (i + 1)))[j]? = some u → w.cell? (a'.add j) = some u := by
  have hel : Try.prog.elem 56 = 62 := by kernel_rfl
  have hu : Try.prog.underlying 56 = some (.slice (Try.prog.elem 56)) := by rw [hel]; exact Try.underlying56
  refine ⟨if c = i + 1 then a else a.add ((i + 1) * 4), fun W => ?_, fun w R hR hn hC j u hj => ?_⟩
  · rw [run_slice_l W 56 (some a) n c hu .i64 ((i : Int) + 1) (by omega) (by omega), hel, size62]
    have e : ((i : Int) + 1).toNat = i + 1 := by omega
    by_cases hc : c = i + 1 <;> simp [sliced, Result.andThen, e, hc]
  · have hjl := (List.getElem?_eq_some_iff.1 hj).1
    rw [cells62_length] at hjl
    have hlt : i + 1 < R.length := by simp at hjl; omega
    rw [if_neg (by omega)]
    exact C_cells (C_drop hC (i + 1) (by omega)) j u hj

set_option maxHeartbeats 600000 in
set_option maxRecDepth 100000 in
theorem some17 (A : Option Addr) (c : Nat) (l : List S62) (many : Nat) (Ap : Option Addr) (cp : Nat) (ps : List Int) (w : World) (hA : Kd.C k62 w A l.length l) (hl7 : l.length ≤ 7) (hl0 : 0 < l.length) (hc : l.length ≤ c) (hm : many ≤ l.length)
    (hP : Kd.C (Kd.int .i64) w Ap ps.length ps) (hpl : ps.length ≤ 9223372036854775807) (hwp : ∀ p ∈ ps, (Lit.int .i64 p).wf = true) :
    Calls Try.prog 22 #[.slice A l.length c, .int .i64 many, .slice Ap ps.length cp] w fun e w' => (∃ v O R, e = .returned v ∧ Own w' w.heap.size v O ∧ O.length = many ∧ (O ++ R).Perm l) ∧ Below w.heap.size w w' := by
  obtain ⟨ad, rfl, hcl⟩ := cells_of hA hl0
  have HCL := Lib.hid hcl
  have HP := Lib.hid hP
  have HW := Lib.hid hwp
  clear hA hcl hP hwp
  go_enter Try.func22, Try.ntmps22
  go_wp2_with (at_builtin; refine append62 rfl (.const (.slice none 0 0)) (.tmp 11) rfl w.heap.size (.slice none 0 0) [] rfl (Own.nil _ _) ad l.length c l rfl rfl HCL.out (by simp; omega) (Nat.le_refl _) ?_)
  intro v1 w1 hown1 hg1
  replace hown1 : Own w1 w.heap.size v1 l := hown1
  have hB1 : Below w.heap.size w w1 := (Below.refl _ _).grown hg1 (Nat.le_refl _) (by simp [Value.ownBlock])
  clear hg1
  have HO1 := Lib.hid hown1
  clear hown1
  go_wp2
  go_loopw [7, 8, 9] (fun rv ov i wr => ∃ (k : Nat) (O R : List S62), k ≤ many ∧ i = .int .i64 k ∧ Hid (Own wr w.heap.size rv R) ∧ Hid (Own wr w.heap.size ov O) ∧ Hid (∀ b, ov.ownBlock = some b → rv.ownBlock ≠ some b) ∧ Hid (O.length = k) ∧ Hid ((O ++ R).Perm l) ∧ Below w.heap.size w wr) (fun _ _ i _ => many - (intOf i).toNat)
  case atStart => exact ⟨0, [], l, Nat.zero_le _, rfl, HO1.out, Own.nil _ _, fun b hb => by simp [Value.ownBlock] at hb, rfl, List.Perm.refl _, hB1⟩
  case round =>
    clear hB1 HO1
    obtain ⟨k, O, R, hk, rfl, HR, HO, HS, HL, HPM, hB⟩ := hrel
    have hRl : R.length + k = l.length := by have := HPM.out.length_eq; have h2 := HL.out; simp at this; omega
    by_cases hlt : k < many
    · obtain ⟨g, cap, hrv, hgB, hRc, hcm⟩ := HR.out.notNil (by omega)
      rw [hrv] at HR HS ⊢
      clear hrv
      have hgl := HR.out.ltH g rfl
      go_upto_if 21 with (fail)
      go_cut [10] (fun s wx => ∃ ix : Nat, ix < R.length ∧ s = .int .i64 ix ∧ Below wr.heap.size wr wx)
      case first =>
        by_cases hkp : k < ps.length
        · obtain ⟨ap, hap, hpc⟩ := at_int (Kd.C_below HP.out hB) k hkp
          subst hap
          have hpw := HW.out (ps.getD k 0) (by rw [List.getD_eq_getElem?_getD, List.getElem?_eq_getElem hkp]; exact List.getElem_mem _)
          obtain ⟨pk, hpk⟩ : ∃ pk, ps.getD k 0 = pk := ⟨_, rfl⟩
          rw [hpk] at hpc hpw
          clear hpk
          have HAM := Lib.hid (among15 pk R.length wr (by omega) (by omega) hpw)
          go_wp2_with fail
          refine HAM.out.mono ?_
          rintro e w4 ⟨⟨ix, hix, rfl⟩, hb4⟩
          go_wp2_with fail
          go_meet
          exact ⟨ix, hix, rfl, hb4⟩
        · go_wp2_with fail
          go_meet
          exact ⟨0, by omega, rfl, Below.refl _ _⟩
      case rest =>
        obtain ⟨ix, hix, rfl, hbc⟩ := hcut
        have hB4 : Below w.heap.size w wc := hB.trans (hbc.mono hB.size)
        have HR4 := Lib.hid (HR.out.move (w1 := wc) (fun b hb => hbc.block b (HR.out.ltH b hb)))
        have HO4 := Lib.hid (HO.out.move (w1 := wc) (fun b hb => hbc.block b (HO.out.ltH b hb)))
        have hgl4 := HR4.out.ltH g rfl
        clear hB hbc HR HO hgl
        obtain ⟨A', c', hv', hC4, _⟩ := HR4.out.reads (by omega)
        injection hv' with e1 e2 e3
        subst e1 e3
        obtain ⟨ad', ha', g0, g1, g2, g3⟩ := at_T62 hC4 (ix : Int) (by omega) (by omega)
        obtain rfl := Option.some.inj ha'
        simp only [Int.toNat_natCast, add_plain] at g0 g1 g2 g3
        obtain ⟨y, hy⟩ : ∃ y, rd_T62 R (ix : Int) = y := ⟨_, rfl⟩
        rw [hy] at g0 g1 g2 g3
        have HY := Lib.hid hy
        clear hy ha' hC4 e2
        go_wp2_with (at_builtin; refine append62 rfl (.tmp 29) (.tmp 34) rfl w.heap.size _ O rfl (HO4.out.alloc _) ⟨wc.heap.size, 0, none⟩ 1 1 [y] rfl rfl (cells_lit wc y) (by rw [HL.out]; simp; omega) (by have := hB4.size; simp; omega) ?_)
        intro v5 w5 hown5 hg5
        have hB5 : Below w.heap.size w w5 := (hB4.alloc hB4.size _).grown hg5 (by have := hB4.size; simp; omega) (fun b hb => HO4.out.base b hb)
        have hR5 : Own w5 w.heap.size (.slice (some ⟨g, 0, none⟩) R.length cap) R := HR4.out.move (fun b hb => by
          have hbg : b = g := by simpa [Value.ownBlock] using hb.symm
          subst hbg
          exact (hg5.block b (by simp; omega) (fun e => HS.out b e.symm rfl)).trans (Below.heap_alloc _ _ _ hgl4))
        have HO5 := Lib.hid hown5
        have HR5 := Lib.hid hR5
        obtain ⟨A', c', hv', hC5, _⟩ := hR5.reads (by omega)
        injection hv' with e1 e2 e3
        subst e1 e3
        have HTL := Lib.hid (show (R.take ix).length = ix by simp; omega)
        have HTC := Lib.hid (C_cells (C_take hC5 ix))
        obtain ⟨a', hs2, hd2⟩ := slice_from ⟨g, 0, none⟩ R.length cap ix (by omega)
        have hs1 := slice_to g R.length cap ix (by omega)
        have HD2 := Lib.hid (fun W => hd2 W R rfl (by omega))
        have HC5 := Lib.hid hC5
        have hwr : IntKind.i64.wrap ((ix : Int) + 1) = (ix : Int) + 1 := IntWalk.i64_in _ (by omega)
        have HPM' := Lib.hid (perm_step O R l ix hix HPM.out)
        rw [HY.out] at HPM'
        have hB5' : w.heap.size ≤ w5.heap.size := hB5.size
        have HK := Lib.hid HL.out
        clear hown5 hg5 hR5 hC5 hB4 HR4 HO4 hgl4 g0 g1 g2 g3 e2 hd2
        go_wp2
        go_region_law (first | (refine step62 rfl (.const (.slice none 0 0)) (.tmp 38) rfl w5.heap.size (.slice none 0 0) [] (by go_simp) (Own.nil _ _) ⟨g, 0, none⟩ ix cap (R.take ix) (by go_simp) HTL.out HTC.out (by rw [HTL.out]; simp; omega) (Nat.le_refl _) ?_; intro v6 w6 ho6 hg6) | (refine step62 rfl (.tmp 39) (.tmp 43) rfl w5.heap.size v6 (R.take ix) (by go_simp) ho6 a' (R.length - (ix + 1)) (cap - (ix + 1)) (R.drop (ix + 1)) (by go_simp) (by simp; try omega) (HD2.out w6 (Kd.C_below HC5.out ((Below.refl _ _).grown (undrew hg6) (Nat.le_refl _) (by simp [Value.ownBlock])))) (by rw [HTL.out]; simp; omega) hg6.size ?_; intro v7 w7 ho7 hg7))
        have hb6 : Below w5.heap.size w5 w6 := (Below.refl _ _).grown (undrew hg6) (Nat.le_refl _) (by simp [Value.ownBlock])
        have hb7 : Below w5.heap.size w5 w7 := hb6.grown hg7 hb6.size (fun b hb => ho6.base b hb)
        have HO7 := Lib.hid (HO5.out.move (w1 := w7) (fun b hb => hb7.block b (HO5.out.ltH b hb)))
        have HS7 : Hid (∀ b, v5.ownBlock = some b → v7.ownBlock ≠ some b) := fun b hb hb' => by
          have h1 := HO5.out.ltH b hb
          have h2 := ho7.base b hb'
          omega
        have HR7 := Lib.hid (Own.lower ho7 hB5')
        have hB7 : Below w.heap.size w w7 := hB5.trans (hb7.mono hB5')
        clear hb6 hb7 ho6 hg6 ho7 hg7 HO5 HR5 hB5 HTC HD2 HC5
        go_wp2
        go_roundw
        case rel => exact ⟨k + 1, O ++ [y], R.take ix ++ R.drop (ix + 1), by omega, by go_num, HR7, HO7, HS7, by show _ = _; rw [List.length_append, HL.out]; rfl, HPM', hB7⟩
        case measure => simp [intOf]; omega
    · have hkm : k = many := by omega
      subst hkm
      go_wp2
      go_ret
      exact ⟨⟨_, O, R, rfl, HO.out, HL.out, HPM.out⟩, hB⟩
end Go.Proofs.Ytobnehbcnlhchaa.Be
