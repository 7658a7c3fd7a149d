/- Streams: how one lies in memory; 'Feed', walked. Conditions: none. -/
import Derived.Test.YtfpjdgkooikeoaaDoorStrC
import Derived.Deep.DeepCutAuto
import Derived.WalkMore
namespace Go.Proofs.YtfpjdgkooikeoaaDoor.Sl
open Go.RowKit Go.Proofs.YtfpjdgkooikeoaaDoor.Mem
set_option linter.unusedVariables false
set_option linter.unusedSimpArgs false
/-- bytes that are read out of blocks of bytes -/
def RD (w : World) (A : Option Addr) (l : List UInt8) : Prop := BR (fun k => BT w k 5) w A l
theorem RD.fr {S : Nat → Prop} {w w1 : World} {A : Option Addr} {l : List UInt8} (h : RD w A l) (hf : Fr S w w1) (hS : ∀ k, S k → ¬ BT w k 5) : RD w1 A l := by
  intro j u hj
  obtain ⟨ad, e, d, c⟩ := BR.fr h hf (fun k _ d s => hS k s d) j u hj
  exact ⟨ad, e, d.fr hf (fun s => hS _ s d), c⟩
theorem RD.any {w : World} {A : Option Addr} {l : List UInt8} (h : RD w A l) : BR Any w A l := BR.any h
theorem RD.nil (w : World) (A : Option Addr) : RD w A [] := BR.nil _ _ _
theorem RD.row {w : World} {rb : Option Nat} {A : Option Addr} {n c : Nat} {l : List UInt8} (h : Row w 5 1 rb (.slice A n c) n (bv l)) : RD w A l := Row.br (D := fun k => BT w k 5) h (fun k hk => h.bt hk)
theorem RD.drop {w : World} {k o : Nat} {l : List UInt8} (h : RD w (some ⟨k, o, none⟩) l) (i : Nat) : RD w (some ⟨k, o + i, none⟩) (l.drop i) := by
  have := BR.sub h i (l.drop i).length
  rwa [List.take_length] at this
structure Str (w : World) (sb : Nat) (fb : Option Nat) (hd : List UInt8) (ps : List HL) (lost : Nat) : Prop where
  bk : ∃ A c vf, Bk w sb 61 [.slice A hd.length c, vf, .int .i64 (lost : Int)] ∧ RD w A hd ∧ hd.length ≤ c ∧ RO w 22 fb vf ps.length (ps.map HL.v)
  rd : ∀ p ∈ ps, RD w p.A p.d ∧ p.d.length ≤ p.c
  np : sb ≠ 0
  nf : ∀ k, fb = some k → k ≠ 0
theorem Str.fr {S : Nat → Prop} {w w1 : World} {sb : Nat} {fb : Option Nat} {hd : List UInt8} {ps : List HL} {lost : Nat} (h : Str w sb fb hd ps lost) (hf : Fr S w w1) (h1 : ¬ S sb) (h2 : ∀ k, fb = some k → ¬ S k) (h3 : ∀ k, S k → ¬ BT w k 5) : Str w1 sb fb hd ps lost := by
  obtain ⟨A, c, vf, b1, b2, b3, b4⟩ := h.bk
  exact ⟨⟨A, c, vf, b1.fr hf h1, b2.fr hf h3, b3, b4.fr hf h2⟩, fun p hp => ⟨(h.rd p hp).1.fr hf h3, (h.rd p hp).2⟩, h.np, h.nf⟩
theorem Str.no {w w1 : World} {sb : Nat} {fb : Option Nat} {hd : List UInt8} {ps : List HL} {lost : Nat} (h : Str w sb fb hd ps lost) (hf : Fr No w w1) : Str w1 sb fb hd ps lost := h.fr hf id (fun _ _ q => q) (fun _ q => q.elim)
theorem infoBys2 : (Tryd.prog.info? 22).map (fun i => (i.zero, i.size, i.bytes)) = some (some (.slice none 0 0), 1, 24) := infoBys
/-- the block of the stream, and what its list lies in, are no bytes -/
theorem Str.far {w : World} {sb : Nat} {fb : Option Nat} {hd : List UInt8} {ps : List HL} {lost : Nat} (h : Str w sb fb hd ps lost) : ∀ k, (k = sb ∨ fb = some k) → ¬ BT w k 5 := fun k q t => by
  obtain ⟨A, c, vf, b1, b2, b3, b4⟩ := h.bk
  rcases q with rfl | q
  · exact t.ne b1.bt (by decide) rfl
  · exact t.ne (b4.bt q) (by decide) rfl
theorem Str.fne {w : World} {sb : Nat} {fb : Option Nat} {hd : List UInt8} {ps : List HL} {lost : Nat} (h : Str w sb fb hd ps lost) : fb ≠ some sb := fun q => by
  obtain ⟨A, c, vf, b1, b2, b3, b4⟩ := h.bk
  exact (b4.bt q).ne b1.bt (by decide) rfl
/-- what waits is laid by -/
theorem Str.shut {w w1 : World} {sb : Nat} {fb : Option Nat} {hd : List UInt8} {ps : List HL} {lost : Nat} (h : Str w sb fb hd ps lost) (hf : Fr No w w1) (X L : Nat) (a : List UInt8) (hX : Bk w1 X 5 (bv a)) (ha : a.length = L) : Str (w1.setCell ⟨sb, 0, none⟩ (.slice (some ⟨X, 0, none⟩) L L)) sb fb a ps lost := by
  have h1 := h.no hf
  obtain ⟨A, c, vf, b1, b2, b3, b4⟩ := h1.bk
  have hF : Fr (fun k => k = sb) w1 (w1.setCell ⟨sb, 0, none⟩ (.slice (some ⟨X, 0, none⟩) L L)) := (Fr.refl (fun k => k = sb) w1).set (p := ⟨sb, 0, none⟩) (.inl rfl) _
  have hXs : X ≠ sb := hX.bt.ne b1.bt (by decide)
  refine ⟨⟨some ⟨X, 0, none⟩, L, vf, ?_, ?_, by rw [ha]; exact Nat.le_refl _, b4.fr hF (fun k hk q => h1.fne (by rw [hk, q]))⟩, fun p hp => ⟨(h1.rd p hp).1.fr hF (fun k q => h1.far k (.inl q)), (h1.rd p hp).2⟩, h.np, h.nf⟩
  · rw [ha]; exact b1.set 0 _
  · exact BR.of_block (D := fun k => BT (w1.setCell ⟨sb, 0, none⟩ (.slice (some ⟨X, 0, none⟩) L L)) k 5) (hX.fr hF hXs) (hX.bt.fr hF hXs)
/-- one byte more was let by -/
theorem Str.let_by {w : World} {sb : Nat} {fb : Option Nat} {hd : List UInt8} {ps : List HL} {lost : Nat} (h : Str w sb fb hd ps lost) (v : Int) (hv : v = (lost : Int) + 1) : Str (w.setCell ⟨sb, 2, none⟩ (.int .i64 v)) sb fb hd ps (lost + 1) := by
  subst hv
  obtain ⟨A, c, vf, b1, b2, b3, b4⟩ := h.bk
  have hF : Fr (fun k => k = sb) w (w.setCell ⟨sb, 2, none⟩ (.int .i64 ((lost : Int) + 1))) := (Fr.refl (fun k => k = sb) w).set (p := ⟨sb, 2, none⟩) (.inl rfl) _
  exact ⟨⟨A, c, vf, b1.set 2 _, b2.fr hF (fun k q => h.far k (.inl q)), b3, b4.fr hF (fun k hk q => h.fne (by rw [hk, q]))⟩, fun p hp => ⟨(h.rd p hp).1.fr hF (fun k q => h.far k (.inl q)), (h.rd p hp).2⟩, h.np, h.nf⟩
/-- one payload more was found -/
theorem Str.push {w w5 : World} {sb : Nat} {fb fb5 : Option Nat} {hd : List UInt8} {ps : List HL} {lost : Nat} (h : Str w sb fb hd ps lost) (x : HL) (hx : RD w x.A x.d) (hxc : x.d.length ≤ x.c) (hF : Fr (fun k => fb = some k) w w5) (v5 : Value)
    (hrow : RO w5 22 fb5 v5 (ps.length + 1) (ps.map HL.v ++ [x.v])) (hnb : fb5 = fb ∨ ∃ k, fb5 = some k ∧ w.heap.size ≤ k) : Str (w5.setCell ⟨sb, 1, none⟩ v5) sb fb5 hd (ps ++ [x]) lost ∧ Fr (fun k => k = sb ∨ fb = some k) w (w5.setCell ⟨sb, 1, none⟩ v5) := by
  obtain ⟨A, c, vf, b1, b2, b3, b4⟩ := h.bk
  have hF6 : Fr (fun k => k = sb) w5 (w5.setCell ⟨sb, 1, none⟩ v5) := (Fr.refl (fun k => k = sb) w5).set (p := ⟨sb, 1, none⟩) (.inl rfl) _
  have hFF : Fr (fun k => k = sb ∨ fb = some k) w (w5.setCell ⟨sb, 1, none⟩ v5) := (hF.mono (S' := fun k => k = sb ∨ fb = some k) (fun _ _ q => .inr q)).trans hF6 (fun _ _ q => .inl q)
  have hb5 := b1.fr hF (fun q => h.fne q)
  have hsb : sb < w.heap.size := b1.lt
  refine ⟨⟨⟨A, c, v5, hb5.set 1 _, b2.fr hFF h.far, b3, ?_⟩, fun p hp => ?_, h.np, fun k hk => ?_⟩, hFF⟩
  · rw [List.length_append, List.map_append]
    exact hrow.fr hF6 (fun k hk q => by subst q; exact (hrow.bt hk).ne hb5.bt (by decide) rfl)
  · rcases List.mem_append.1 hp with hp | hp
    · exact ⟨(h.rd p hp).1.fr hFF h.far, (h.rd p hp).2⟩
    · rw [List.mem_singleton.1 hp]
      exact ⟨hx.fr hFF h.far, hxc⟩
  · rcases hnb with q | ⟨k', q, hk'⟩
    · exact h.nf k (by rw [← q]; exact hk)
    · rw [q] at hk
      cases hk
      omega
def slen : Value → Nat
  | .slice _ n _ => n
  | _ => 0
theorem slen_ (A : Option Addr) (n c : Nat) : slen (.slice A n c) = n := rfl
set_option maxHeartbeats 4000000 in
set_option maxRecDepth 100000 in
theorem sFeed (sb : Nat) (fb : Option Nat) (hd : List UInt8) (ps : List HL) (lost : Nat) (A : Option Addr) (n c : Nat) (b : List UInt8) (w : World) (hS : Str w sb fb hd ps lost) (hl : b.length = n) (hn : n ≤ 1099511627776) (hh : hd.length ≤ 65548) (hp : ps.length ≤ 1099511627776) (hlo : lost ≤ 1152921504606846976) (hA : BR Any w A b) (hT : Tab w) :
    Calls Tryd.prog 23 #[.pointer (some ⟨sb, 0, none⟩), .slice A n c] w fun e w' => e = .returned (.tuple #[]) ∧ ∃ f l r fb' qs, Scan (hd ++ b) f l r ∧ Str w' sb fb' r (ps ++ qs) (lost + l) ∧ qs.map HL.d = f ∧ Fr (fun k => k = sb ∨ fb = some k) w w' ∧ (∀ k, fb' = some k → fb = some k ∨ w.heap.size ≤ k) := by
  have HS := Lib.hid hS
  have HA := Lib.hid hA
  have HT := Lib.hid hT
  have HLb := Lib.hid hl
  obtain ⟨Ah, ch, vf, b1, b2, b3, b4⟩ := hS.bk
  obtain ⟨m, hm⟩ : ∃ m, hd.length = m := ⟨_, rfl⟩
  have HM := Lib.hid hm
  rw [hm] at b1 b3 hh
  obtain ⟨y0, y1, y2, yf⟩ := b1.three
  have HCO := Lib.hid (scopied Ah m ch hd w hm (by omega) b2.any)
  clear hS hA hT hl b1 b2 b3 b4 hm
  go_enter Tryd.func23, Tryd.ntmps23
  go_step3
  go_wp2_with fail
  refine HCO.out.mono ?_
  rintro e w1 ⟨rfl, hB1, hF1⟩
  have HR1 := Lib.hid (show Row w1 5 1 (some w.heap.size) (.slice (some ⟨w.heap.size, 0, none⟩) m m) m (bv hd) from Row.made (n := m) (size := 1) hB1 (by simp [bv, HM.out]) (by unfold maxLen; omega))
  have HF1 := Lib.hid hF1
  have HC := Lib.hid (show 0 < n → ∃ ad, A = some ad ∧ ∀ j u, (bv b)[j]? = some u → w1.cell? (ad.add j) = some u from fun h => (HA.out.fr hF1 (fun _ _ _ q => q)).cells (by rw [HLb.out]; exact h))
  clear hB1 hF1 HCO y0 y1 y2 yf
  go_wp2_with (at_builtin; refine wl_append _ rfl (.tmp 11) (.tmp 12) 22 rfl 5 _ 1 1 Tryd.underlying22 info8 rfl (by decide) (some w.heap.size) _ m (bv hd) rfl HR1.out A n c (bv b) rfl (by rw [bv_len, HLb.out, Nat.mul_one]) HC.out (bv_one b) (by unfold maxLen; omega) (by omega) ?_; intro A2 c2 w2 rb2 hrow2 hF2 hnb2)
  go_step3
  go_wp2
  have HT0 := Lib.hid (fun k (hk : fb = some k) => HS.out.nf k hk)
  have hF02 : Fr No w w2 := HF1.out.trans hF2 (fun k hk q => by cases q; omega)
  have HF2 := Lib.hid (hF02.mono (S' := fun k => k = sb ∨ fb = some k) (fun _ _ q => q.elim))
  have HS2 := Lib.hid (HS.out.no hF02)
  have hle2 : m + n ≤ c2 := by obtain ⟨_, _, hv, hle⟩ := hrow2.val; injection hv with _ _ e3; omega
  rw [← bv_append] at hrow2
  have HD2 := Lib.hid (RD.row hrow2)
  clear hF02 hF2 hnb2 hrow2 HR1 HC
  go_loopw [4] (fun v wr => ∃ (a : List UInt8) (A4 : Option Addr) (L c4 : Nat) (qs : List HL) (fb' : Option Nat) (l0 : Nat), v = .slice A4 L c4 ∧ L ≤ c4 ∧ L + l0 ≤ m + n ∧ qs.length + L ≤ m + n ∧ Hid (a.length = L) ∧ Hid (RD wr A4 a) ∧ Hid (Str wr sb fb' hd (ps ++ qs) (lost + l0)) ∧ Hid (∀ f l r, Scan a f l r → Scan (hd ++ b) (qs.map HL.d ++ f) (l0 + l) r) ∧ Hid (Fr (fun k => k = sb ∨ fb = some k) w wr) ∧ Hid (∀ k, fb' = some k → fb = some k ∨ w.heap.size ≤ k)) (fun v _ => slen v)
  case atStart => exact ⟨hd ++ b, A2, m + n, c2, [], fb, 0, rfl, hle2, by omega, by simp, by show (hd ++ b).length = m + n; rw [List.length_append, HM.out, HLb.out], HD2, by rw [List.append_nil]; exact HS2, by intro f l r h; simpa using h, HF2, fun k hk => .inl hk⟩
  case round =>
    clear HD2 HS2 HF2
    obtain ⟨a, A4, L, c4, qs, fb', l0, rfl, hLc, hLl, hLq, HLa, HD, HS, HSC, HF, HFB⟩ := hrel
    by_cases hL0 : L = 0
    · subst hL0
      have HCO := Lib.hid (scopied A4 0 c4 a wr HLa.out (by omega) HD.out.any)
      have ha0 : a = [] := List.eq_nil_of_length_eq_zero HLa.out
      have HSN := Lib.hid (HSC.out [] 0 [] (by rw [ha0]; exact Scan.nil))
      go_wp2_with fail
      refine HCO.out.mono ?_
      rintro e w3 ⟨rfl, hB3, hF3⟩
      obtain ⟨_, _, _, b1, _⟩ := (HS.out.no hF3).bk
      obtain ⟨y0, y1, y2, yf⟩ := b1.three
      have HS4 := Lib.hid (HS.out.shut hF3 wr.heap.size 0 a hB3 HLa.out)
      have HF4 := Lib.hid ((HF.out.trans hF3 (fun _ _ q => q.elim)).set (p := ⟨sb, 0, none⟩) (.inl (.inl rfl)) (.slice (some ⟨wr.heap.size, 0, none⟩) 0 0))
      clear hB3 hF3 HCO b1
      go_wp2
      rw [Exit.noGoto_normal]
      go_end0
      exact ⟨rfl, _, _, _, fb', qs, HSN.out, by rw [← ha0]; exact HS4.out, by simp, HF4.out, HFB.out⟩
    · have hL1 : 0 < L := by omega
      have hL1i : (0 : Int) < (L : Int) := by omega
      have dL : decide ((0 : Int) < (L : Int)) = true := decide_eq_true hL1i
      have dL' : decide (0 < L) = true := decide_eq_true hL1
      have hane : a ≠ [] := fun q => by have := HLa.out; rw [q] at this; simp at this; omega
      obtain ⟨ad, rfl, c0⟩ := HD.out.any.at_ 0 (by rw [HLa.out]; exact hL1)
      rw [show ad.add 0 = ad from rfl] at c0
      obtain ⟨k4, o4, rfl⟩ := spot c0
      have HTr := Lib.hid (HT.out.fr HF.out (fun q => by
        rcases q with q | q
        · exact HS.out.np q.symm
        · exact HT0.out 0 q rfl))
      have HBE := Lib.hid (begins (some ⟨k4, o4, none⟩) L c4 a wr HLa.out hL1 hLc (by omega) HD.out.any HTr.out)
      have HNE := Lib.hid hane
      clear c0 hane hL0
      rcases hq : begL a with ⟨bo, sz⟩
      rw [hq] at HBE
      have HQ := Lib.hid hq
      clear hq
      dsimp only at HBE
      cases bo
      · go_wp2_with fail
        refine HBE.out.mono ?_
        rintro e w3 ⟨rfl, hF3⟩
        obtain ⟨l1, hl1⟩ : ∃ l1, lost + l0 = l1 := ⟨_, rfl⟩
        have HL1 := Lib.hid hl1
        rw [hl1] at HS
        have hl1b : l1 ≤ 1152921504606846976 + 1099511693324 := by omega
        clear hl1
        obtain ⟨Ah', ch', vf', b1, _⟩ := (HS.out.no hF3).bk
        obtain ⟨y0, y1, y2, yf⟩ := b1.three
        have hwl : IntKind.i64.wrap ((l1 : Int) + 1) = (l1 : Int) + 1 := IntWalk.i64_in _ (by omega)
        have hF4 : Fr (fun k => k = sb) w3 (w3.setCell ⟨sb, 2, none⟩ (.int .i64 ((l1 : Int) + 1))) := (Fr.refl (fun k => k = sb) w3).set (p := ⟨sb, 2, none⟩) (.inl rfl) _
        have HD4 := Lib.hid ((HD.out.fr hF3 (fun _ q => q.elim)).fr hF4 (fun k q => (HS.out.no hF3).far k (.inl q)))
        have HS4 := Lib.hid ((HS.out.no hF3).let_by ((l1 : Int) + 1) rfl)
        have HF4 := Lib.hid ((HF.out.trans hF3 (fun _ _ q => q.elim)).trans hF4 (fun _ _ q => .inl q))
        have HSC4 := Lib.hid (show ∀ f l r, Scan (a.drop 1) f l r → Scan (hd ++ b) (qs.map HL.d ++ f) (l0 + 1 + l) r from fun f l r h => by
          have := HSC.out f (l + 1) r (Scan.lost HNE.out HQ.out h)
          rwa [show l0 + 1 + l = l0 + (l + 1) by omega])
        have hd1 : (a.drop 1).length = L - 1 := by rw [List.length_drop, HLa.out]
        have HD1 := Lib.hid hd1
        have hLci : (1 : Int) ≤ (L : Int) := by omega
        clear hF3 hF4 HBE HS HF HD b1 HSC hd1
        by_cases hc1 : c4 = 1
        · obtain rfl : L = 1 := by omega
          go_wp2
          generalize w3.setCell ⟨sb, 2, none⟩ (.int .i64 ((l1 : Int) + 1)) = w4 at *
          go_roundw
          case rel => exact ⟨a.drop 1, _, 0, _, qs, fb', l0 + 1, rfl, by omega, by omega, by omega, HD1.out, by rw [List.eq_nil_of_length_eq_zero HD1.out]; exact RD.nil _ _, by rw [show lost + (l0 + 1) = l1 + 1 by have := HL1.out; omega]; exact HS4.out, HSC4.out, HF4.out, HFB.out⟩
          case measure => simp [slen]
        · go_wp2
          generalize w3.setCell ⟨sb, 2, none⟩ (.int .i64 ((l1 : Int) + 1)) = w4 at *
          go_roundw
          case rel => exact ⟨a.drop 1, _, L - 1, _, qs, fb', l0 + 1, rfl, by omega, by omega, by omega, HD1.out, HD4.out.drop 1, by rw [show lost + (l0 + 1) = l1 + 1 by have := HL1.out; omega]; exact HS4.out, HSC4.out, HF4.out, HFB.out⟩
          case measure => simp [slen]; omega
      · rcases sz with _ | sz
        · have HSN := Lib.hid (HSC.out [] 0 a (Scan.rest HNE.out HQ.out))
          go_wp2_with fail
          refine HBE.out.mono ?_
          rintro e w3 ⟨rfl, hF3⟩
          have HCO := Lib.hid (scopied (some ⟨k4, o4, none⟩) L c4 a w3 HLa.out (by omega) (HD.out.any.fr hF3 (fun _ _ _ q => q)))
          have HS3 := Lib.hid (HS.out.no hF3)
          have HF3 := Lib.hid (HF.out.trans hF3 (fun _ _ q => q.elim))
          clear hF3 HBE HS HF HSC
          go_wp2_with fail
          refine HCO.out.mono ?_
          rintro e w5 ⟨rfl, hB5, hF5⟩
          obtain ⟨_, _, _, b1, _⟩ := (HS3.out.no hF5).bk
          obtain ⟨y0, y1, y2, yf⟩ := b1.three
          have HS6 := Lib.hid (HS3.out.shut hF5 w3.heap.size L a hB5 HLa.out)
          have HF6 := Lib.hid ((HF3.out.trans hF5 (fun _ _ q => q.elim)).set (p := ⟨sb, 0, none⟩) (.inl (.inl rfl)) (.slice (some ⟨w3.heap.size, 0, none⟩) L L))
          clear hB5 hF5 HCO b1 HS3 HF3
          go_wp2
          rw [Exit.noGoto_normal]
          go_end0
          exact ⟨rfl, _, _, _, fb', qs, HSN.out, HS6.out, by simp, HF6.out, HFB.out⟩
        · obtain ⟨hz, hzl, hz6, _⟩ := begL_found HQ.out
          obtain ⟨M, hM⟩ : ∃ M, lenL a = M := ⟨_, rfl⟩
          rw [hM] at hz hzl hz6
          rw [HLa.out] at hzl
          obtain rfl : sz = M + 12 := by omega
          rw [show ((M + 12 + 1 : Nat) : Int) = (M : Int) + 13 by omega] at HBE
          have HMM := Lib.hid hM
          have hmid : (midL a).length = M := by rw [midL_len (by rw [hM, HLa.out]; omega), hM]
          have HMID := Lib.hid hmid
          have HMB := Lib.hid (show RD wr (some ⟨k4, o4 + 9, none⟩) (midL a) from by unfold midL; exact BR.sub HD.out 9 (lenL a))
          have d6 : decide ((0 : Int) < (M : Int) + 13) = true := decide_eq_true (by omega)
          have hw4 : IntKind.i64.wrap ((M : Int) + 13 - 4) = 9 + (M : Int) := by rw [show (M : Int) + 13 - 4 = 9 + (M : Int) by omega]; exact IntWalk.i64_in _ (by omega)
          have hmc : (9 : Int) + (M : Int) ≤ (c4 : Int) := by omega
          have hmcn : 9 + M ≤ c4 := by omega
          have hmc0 : (0 : Int) ≤ 9 + (M : Int) := by omega
          have hmc1 : (9 : Int) ≤ 9 + (M : Int) := by omega
          have htn : ((9 : Int) + (M : Int)).toNat = 9 + M := by omega
          have hc9 : ¬ (c4 = 9) := by omega
          obtain ⟨N, hN⟩ : ∃ N, (ps ++ qs).length = N := ⟨_, rfl⟩
          have hNb : N ≤ 1099511627776 + (65548 + 1099511627776) := by rw [← hN, List.length_append]; omega
          have HN := Lib.hid hN
          clear hM hmid hz hN
          go_wp2_with fail
          refine HBE.out.mono ?_
          rintro e w3 ⟨rfl, hF3⟩
          obtain ⟨Ah', ch', vf', b1, _, _, b4⟩ := (HS.out.no hF3).bk
          obtain ⟨Af, cf, rfl, _⟩ := b4.val
          rw [HN.out] at b1 b4
          obtain ⟨y0, y1, y2, yf⟩ := b1.three
          have HB1 := Lib.hid b1
          have HB4 := Lib.hid b4
          have HS3 := Lib.hid (HS.out.no hF3)
          have HD3 := Lib.hid (HD.out.fr hF3 (fun _ q => q.elim))
          have HMB3 := Lib.hid (HMB.out.fr hF3 (fun _ q => q.elim))
          have HF3 := Lib.hid (HF.out.trans hF3 (fun _ _ q => q.elim))
          have HCO := Lib.hid (fun W (h : Fr No w3 W) => scopied (some ⟨k4, o4 + 9, none⟩) M (c4 - 9) (midL a) W HMID.out (by omega) (HMB3.out.any.fr h (fun _ _ _ q => q)))
          clear hF3 HBE HS HF HD HMB b1 b4
          go_upto_region 7 with (fail)
          go_region_law (first | (go_simp; go_at_call 36; refine (HCO.out _ ((Fr.refl _ _).drew)).mono ?_; rintro e w4 ⟨rfl, hB4, hF4⟩; change Bk w4 w3.heap.size _ _ at hB4; have hA4 : Fr No w3 (w4.alloc (.cells #[.slice (some ⟨w3.heap.size, 0, none⟩) M M] 22 (0, 0))) := (((Fr.refl No w3).drew).then_ hF4).alloc _; have HA4 := Lib.hid hA4; have HR4 := Lib.hid (HB4.out.fr hA4 (fun _ _ q => q)); have HX4 := Lib.hid (hB4.fr ((Fr.refl No w4).alloc (.cells #[.slice (some ⟨w3.heap.size, 0, none⟩) M M] 22 (0, 0))) id); have HU4 := Lib.hid (show (w4.alloc (.cells #[.slice (some ⟨w3.heap.size, 0, none⟩) M M] 22 (0, 0))).cell? ⟨w4.heap.size, 0, none⟩ = some (.slice (some ⟨w3.heap.size, 0, none⟩) M M) from (Bk.new w4 22 [Value.slice (some ⟨w3.heap.size, 0, none⟩) M M]).cell 0); obtain ⟨q0, q1, q2, qf⟩ := (HB1.out.fr (((Fr.refl No w3).drew).then_ hF4) id).three; obtain ⟨r0, r1, r2, rf⟩ := (HB1.out.fr hA4 id).three; clear hA4 hB4 hF4) | (refine st_appendO rfl (.tmp 41) (.tmp 47) 45 rfl 22 _ 24 Tryd.underlying45 infoBys rfl fb' _ N ((ps ++ qs).map HL.v) rfl HR4.out ⟨w4.heap.size, 0, none⟩ _ rfl HU4.out (by simp [Value.oneCell']) (by unfold maxLen; omega) (by omega) ?_; intro A5 c5 w5 rb5 hrow5 hF5 hnb5; obtain ⟨p0, p1, p2, pf⟩ := (HB1.out.fr HA4.out id).fr hF5 HS3.out.fne |>.three))
          all_goals
            have hs3 := HF3.out.size
            have hs4 := HA4.out.size
            have hSA := HS3.out.no HA4.out
            obtain ⟨hst, hFF⟩ := hSA.push ⟨some ⟨w3.heap.size, 0, none⟩, M, none, midL a⟩ (BR.of_block (D := fun k => BT _ k 5) HX4.out HX4.out.bt) (by dsimp only; rw [HMID.out]; exact Nat.le_refl _) hF5 (.slice A5 (N + 1) c5) (by
              rw [HN.out]
              show RO w5 22 rb5 (.slice A5 (N + 1) c5) (N + 1) ((ps ++ qs).map HL.v ++ [Value.slice (some ⟨w3.heap.size, 0, none⟩) (midL a).length M])
              rw [HMID.out]
              exact hrow5) hnb5
            have HD6 := Lib.hid ((HD3.out.fr HA4.out (fun _ q => q.elim)).fr hFF hSA.far)
            have HF6 := Lib.hid ((HF3.out.trans HA4.out (fun _ _ q => q.elim)).trans hFF (fun k hk q => by
              rcases q with q | q
              · exact .inl q
              · rcases HFB.out k q with q' | q'
                · exact .inr q'
                · omega))
            have HFB6 := Lib.hid (show ∀ k, rb5 = some k → fb = some k ∨ w.heap.size ≤ k from fun k hk => by
              rcases hnb5 with q | ⟨k', q, hk'⟩
              · exact HFB.out k (by rw [← q]; exact hk)
              · rw [q] at hk
                cases hk
                exact .inr (by omega))
            have HS6 := Lib.hid hst
            have HSC6 := Lib.hid (show ∀ f l r, Scan (a.drop (M + 13)) f l r → Scan (hd ++ b) ((qs ++ [(⟨some ⟨w3.heap.size, 0, none⟩, M, none, midL a⟩ : HL)]).map HL.d ++ f) (l0 + l) r from fun f l r h => by
              have := HSC.out (midL a :: f) l r (Scan.found HNE.out HQ.out h)
              rw [List.map_append, List.append_assoc]
              exact this)
            have HD1 := Lib.hid (show (a.drop (M + 13)).length = L - (M + 13) by rw [List.length_drop, HLa.out])
            have hmL : (M : Int) + 13 ≤ (L : Int) := by omega
            have hmL0 : (0 : Int) ≤ (M : Int) + 13 := by omega
            have htn2 : ((M : Int) + 13).toNat = M + 13 := by omega
            have hpq : ps ++ qs ++ [(⟨some ⟨w3.heap.size, 0, none⟩, M, none, midL a⟩ : HL)] = ps ++ (qs ++ [⟨some ⟨w3.heap.size, 0, none⟩, M, none, midL a⟩]) := List.append_assoc ..
            rw [hpq] at HS6
            generalize w5.setCell ⟨sb, 1, none⟩ (.slice A5 (N + 1) c5) = w6 at *
            clear hpq hs3 hs4 hSA hst hFF hrow5 hF5 hnb5 p0 p1 p2 pf q0 q1 q2 qf r0 r1 r2 rf y0 y1 y2 yf HB1 HB4 HX4 HU4 HR4 HA4 HS3 HD3 HMB3 HF3 HCO
            by_cases hc1 : c4 = M + 13
            · obtain rfl : L = M + 13 := by omega
              go_wp2
              go_roundw
              case rel => exact ⟨a.drop (M + 13), _, 0, _, qs ++ [⟨some ⟨w3.heap.size, 0, none⟩, M, none, midL a⟩], rb5, l0, by first | rfl | simp, by omega, by omega, by rw [List.length_append]; simp; omega, by have := HD1.out; show (a.drop (M + 13)).length = 0; omega, by rw [List.eq_nil_of_length_eq_zero (show (a.drop (M + 13)).length = 0 by have := HD1.out; omega)]; exact RD.nil _ _, HS6, HSC6, HF6, HFB6⟩
              case measure => simp [slen]
            · have hc13 : ¬ (c4 - (M + 13) = 0) := by omega
              go_wp2
              go_roundw
              case rel => exact ⟨a.drop (M + 13), _, L - (M + 13), _, qs ++ [⟨some ⟨w3.heap.size, 0, none⟩, M, none, midL a⟩], rb5, l0, by first | rfl | simp, by omega, by omega, by rw [List.length_append]; simp; omega, HD1, HD6.out.drop (M + 13), HS6, HSC6, HF6, HFB6⟩
              case measure => simp [slen]; omega
end Go.Proofs.YtfpjdgkooikeoaaDoor.Sl
