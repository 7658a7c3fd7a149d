/- Lists that were handed out: all read as they must. Conditions: none. -/
import Derived.Test.YtfpjdgkooikeoaaDoorHelE
namespace Go.Proofs.YtfpjdgkooikeoaaDoor.Sl
open Go.RowKit Go.Proofs.YtfpjdgkooikeoaaDoor.Mem
set_option linter.unusedVariables false
set_option linter.unusedSimpArgs false
structure HeldR (B : Nat) (w : World) (hb : Nat) (os ws : List HL) : Prop where
  bk : ∃ ro rw vo vw, Bk w hb 56 [vo, vw] ∧ Row w 22 1 ro vo os.length (os.map HL.v) ∧ Row w 22 1 rw vw ws.length (ws.map HL.v) ∧ (∀ k, ro = some k → B ≤ k) ∧ (∀ k, rw = some k → B ≤ k)
  eq : os.map HL.d = ws.map HL.d
  rd : ∀ x ∈ os ++ ws, BR (fun k => B ≤ k) w x.A x.d
  hbn : B ≤ hb
theorem LR.rd {B : Nat} {w : World} {x : HL} (h : LR w x) (hn : ∀ k, x.b = some k → B ≤ k) : BR (fun k => B ≤ k) w x.A x.d := Row.br (D := fun k => B ≤ k) (n := x.d.length) (c := x.c) h hn
theorem Held.read {B : Nat} {w : World} {hb : Nat} {ro rw : Option Nat} {os ws : List HL} (h : Held B w hb ro rw os ws) : HeldR B w hb os ws := by
  obtain ⟨vo, vw, h1, h2, h3⟩ := h.bk
  exact ⟨⟨ro, rw, vo, vw, h1, h2, h3, h.ron, h.rwn⟩, h.eq, fun x hx => LR.rd (h.lr x hx) (h.xn x hx), h.hbn⟩
theorem HeldR.fr {S : Nat → Prop} {B : Nat} {w w1 : World} {hb : Nat} {os ws : List HL} (h : HeldR B w hb os ws) (hf : Fr S w w1) (hs : ∀ k, S k → k < B) : HeldR B w1 hb os ws := by
  obtain ⟨ro, rw, vo, vw, h1, h2, h3, h4, h5⟩ := h.bk
  refine ⟨⟨ro, rw, vo, vw, h1.fr hf (fun q => ?_), h2.fr hf (fun k hk q => ?_), h3.fr hf (fun k hk q => ?_), h4, h5⟩, h.eq, fun x hx => (h.rd x hx).fr hf (fun k _ hd q => ?_), h.hbn⟩
  · have := hs _ q; have := h.hbn; omega
  · have := hs _ q; have := h4 k hk; omega
  · have := hs _ q; have := h5 k hk; omega
  · have := hs _ q; omega
set_option maxHeartbeats 2000000 in
theorem holds (B : Nat) (w : World) (hb : Nat) (os ws : List HL) (h : HeldR B w hb os ws) (hn : os.length ≤ 1000000) (hd : ∀ x ∈ os, x.d.length ≤ 4611686018427387904) :
    Calls Tryd.prog 32 #[.pointer (some ⟨hb, 0, none⟩)] w fun e w' => e = .returned (.bool true) ∧ Fr No w w' := by
  have H := Lib.hid h
  obtain ⟨n, hnn⟩ : ∃ n, os.length = n := ⟨_, rfl⟩
  have hwn : ws.length = n := by have := congrArg List.length h.eq; simpa [hnn] using this.symm
  have HN := Lib.hid hnn
  have HW := Lib.hid hwn
  have HD := Lib.hid hd
  rw [hnn] at hn
  clear h hnn hwn hd
  go_enter Tryd.func32, Tryd.ntmps32
  go_wp2
  go_loopw [3] (fun i wr => ∃ k : Nat, k ≤ n ∧ i = .int .i64 (k : Int) ∧ Hid (Fr No w wr)) (fun i _ => n - (intOf i).toNat)
  case atStart => exact ⟨0, Nat.zero_le _, rfl, Fr.refl _ _⟩
  case round =>
    obtain ⟨k, hk, rfl, HF⟩ := hrel
    obtain ⟨ro, rw, vo, vw, h1, h2, h3, h4, h5⟩ := (H.out.fr HF.out (fun _ q => q.elim)).bk
    obtain ⟨Ao, co, rfl, _⟩ := h2.val
    obtain ⟨Aw, cw, rfl, _⟩ := h3.val
    rw [HN.out] at h1 h2
    rw [HW.out] at h1 h3
    obtain ⟨y0, y1, yf⟩ := h1.two
    have hw : IntKind.i64.wrap ((k : Int) + 1) = (k : Int) + 1 := IntWalk.i64_in _ (by omega)
    by_cases hlt : k < n
    · have hko : k < os.length := by rw [HN.out]; exact hlt
      have hkw : k < ws.length := by rw [HW.out]; exact hlt
      obtain ⟨g, c, hg, hv, _, hcell, _⟩ := h2.at_ (by omega)
      injection hv with e1 _ e3
      subst e1 e3
      obtain ⟨g', c', hg', hv', _, hcell', _⟩ := h3.at_ (by omega)
      injection hv' with e1 _ e3
      subst e1 e3
      have x0 := hcell k (os[k].v) (by rw [List.getElem?_map, List.getElem?_eq_getElem hko]; rfl)
      have x1 := hcell' k (ws[k].v) (by rw [List.getElem?_map, List.getElem?_eq_getElem hkw]; rfl)
      have hde : os[k].d = ws[k].d := by
        have := congrArg (fun l => l[k]?) H.out.eq
        simpa [List.getElem?_map, List.getElem?_eq_getElem hko, List.getElem?_eq_getElem hkw] using this
      have hrd := (H.out.fr HF.out (fun _ q => q.elim)).rd
      have ho := (hrd os[k] (List.mem_append_left _ (List.getElem_mem _))).any
      have hwr := (hrd ws[k] (List.mem_append_right _ (List.getElem_mem _))).any
      have hdl := HD.out os[k] (List.getElem_mem _)
      generalize os[k] = xo at *
      generalize ws[k] = xw at *
      obtain ⟨oA, oc, ob, od⟩ := xo
      obtain ⟨wA, wc', wb, wd⟩ := xw
      unfold HL.v at x0 x1
      dsimp only at *
      subst hde
      have HS := Lib.hid (fun W (hW : Fr No wr W) => same oA wA od.length od.length oc wc' od od W (ho.fr hW (fun _ _ _ q => q)) (hwr.fr hW (fun _ _ _ q => q)) rfl rfl hdl hdl)
      rw [show decide (od = od) = true from decide_eq_true rfl] at HS
      generalize od.length = dl at *
      have hki : (k : Int) < (n : Int) := by omega
      have dk : decide ((k : Int) < (n : Int)) = true := decide_eq_true hki
      clear h1 h2 h3 hcell hcell' hg hg' ho hwr hrd hdl
      go_wp2
      go_still_tail 14, (by kernel_rfl)
      change wpList _ _ _ _ _ wr.drew
      generalize hw2 : wr.drew = w2
      have hF2 : Fr No wr w2 := by rw [← hw2]; exact (Fr.refl _ _).drew
      have HC := Lib.hid (HS.out w2 hF2)
      have HF2 := Lib.hid (HF.out.then_ hF2)
      clear hw2 HS HF hF2 x0 x1 y0 y1 yf
      go_wp2_with fail
      refine HC.out.mono ?_
      rintro e w3 ⟨rfl, hF3⟩
      have HF3 := Lib.hid (HF2.out.then_ hF3)
      clear hF3 HC
      go_wp2
      go_roundw
      case rel => exact ⟨k + 1, by omega, by go_num, HF3⟩
      case measure => simp [intOf]; omega
    · obtain rfl : k = n := by omega
      have dk : decide ((k : Int) < (k : Int)) = false := decide_eq_false (by omega)
      go_wp2
      go_ret
      exact ⟨rfl, HF.out⟩
end Go.Proofs.YtfpjdgkooikeoaaDoor.Sl
