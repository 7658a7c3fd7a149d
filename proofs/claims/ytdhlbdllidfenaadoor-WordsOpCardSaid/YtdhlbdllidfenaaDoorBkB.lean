/- Words: the book: all of them read as they must. Conditions: none. -/
import Derived.Test.YtdhlbdllidfenaaDoorBkA
namespace Go.Proofs.YtdhlbdllidfenaaDoor.Wd
open Go.RowKit Go.Proofs.YtdhlbdllidfenaaDoor.Mem
set_option linter.unusedVariables false
set_option linter.unusedSimpArgs false
theorem Bok.reads {B : Nat → Prop} {w : World} {hb m : Nat} {ro rw : Option Nat} {oo wo of wf : List TL} (h : Bok B w hb ro rw m oo wo of wf) : (∀ x ∈ oo ++ of, TR Any w x.A x.d) ∧ (∀ x ∈ wo ++ wf, TR Any w x.A x.d) ∧ (oo ++ of).map TL.d = (wo ++ wf).map TL.d := by
  refine ⟨fun x hx => ?_, fun x hx => ?_, by rw [List.map_append, List.map_append, h.eo, h.ef]⟩
  · rcases List.mem_append.1 hx with hx | hx
    · exact (h.rd x (List.mem_append_left _ hx)).any
    · exact Row.tr (D := Any) (h.lr x (List.mem_append_left _ hx)) (fun _ _ => trivial)
  · rcases List.mem_append.1 hx with hx | hx
    · exact (h.rd x (List.mem_append_right _ hx)).any
    · exact Row.tr (D := Any) (h.lr x (List.mem_append_right _ hx)) (fun _ _ => trivial)
set_option maxHeartbeats 4000000 in
set_option maxRecDepth 100000 in
theorem bholds (B : Nat → Prop) (w : World) (hb : Nat) (ro rw : Option Nat) (m : Nat) (oo wo of wf : List TL) (h : Bok B w hb ro rw m oo wo of wf) (hn : (oo ++ of).length ≤ 1000000) (hd : ∀ x ∈ oo ++ of, x.d.length ≤ 4000000000000) :
    Calls Tryd.prog 32 #[.pointer (some ⟨hb, 0, none⟩)] w fun e w' => e = .returned (.bool true) ∧ Fr No w w' := by
  have H := Lib.hid h
  obtain ⟨n, hnn⟩ : ∃ n, (oo ++ of).length = n := ⟨_, rfl⟩
  have hwn : (wo ++ wf).length = n := by
    have := congrArg List.length h.reads.2.2
    rw [List.length_map, List.length_map] at this
    rw [← this]; exact hnn
  have HN := Lib.hid hnn
  have HW := Lib.hid hwn
  have HD := Lib.hid hd
  rw [hnn] at hn
  clear h hnn hwn hd
  go_enter Tryd.func32, Tryd.ntmps32
  obtain ⟨vo, vw, h1, h2, h3⟩ := H.out.bk
  obtain ⟨Ao, co, rfl, _⟩ := h2.val
  obtain ⟨Aw, cw, rfl, _⟩ := h3.val
  rw [HN.out] at h1 h2
  rw [HW.out] at h1 h3
  have HK := Lib.hid h1
  have HO := Lib.hid h2
  have HV := Lib.hid h3
  obtain ⟨y0, y1, y2, yf⟩ := h1.three
  clear h1 h2 h3
  go_wp2
  clear y0 y1 y2 yf
  go_loopw [10] (fun i wr => ∃ k : Nat, k ≤ n ∧ i = .int .i64 (k : Int) ∧ Hid (Fr No w wr)) (fun i _ => n - (intOf i).toNat)
  case atStart => exact ⟨0, Nat.zero_le _, rfl, Fr.refl _ _⟩
  case round =>
    obtain ⟨k, hk, rfl, HF⟩ := hrel
    have hw : IntKind.i64.wrap ((k : Int) + 1) = (k : Int) + 1 := IntWalk.i64_in _ (by omega)
    by_cases hlt : k < n
    · have hko : k < (oo ++ of).length := by rw [HN.out]; exact hlt
      have hkw : k < (wo ++ wf).length := by rw [HW.out]; exact hlt
      have h2 := HO.out.fr HF.out (fun _ _ q => q)
      have h3 := HV.out.fr HF.out (fun _ _ q => q)
      obtain ⟨y0, y1, y2, yf⟩ := (HK.out.fr HF.out id).three
      obtain ⟨g, c, hg, hv, _, hcell, _⟩ := h2.at_ (by omega)
      injection hv with e1 _ e3
      subst e1 e3
      obtain ⟨g', c', hg', hv', _, hcell', _⟩ := h3.at_ (by omega)
      injection hv' with e1 _ e3
      subst e1 e3
      have x0 := hcell k ((oo ++ of)[k].v) (by rw [List.getElem?_map, List.getElem?_eq_getElem hko]; rfl)
      have x1 := hcell' k ((wo ++ wf)[k].v) (by rw [List.getElem?_map, List.getElem?_eq_getElem hkw]; rfl)
      obtain ⟨r1, r2, r3⟩ := (H.out.no HF.out).reads
      have hde : (oo ++ of)[k].d = (wo ++ wf)[k].d := by
        have z : ((oo ++ of).map TL.d)[k]? = ((wo ++ wf).map TL.d)[k]? := by rw [r3]
        rw [List.getElem?_map, List.getElem?_map, List.getElem?_eq_getElem hko, List.getElem?_eq_getElem hkw] at z
        exact Option.some.inj z
      have ho := r1 (oo ++ of)[k] (List.getElem_mem _)
      have hwr := r2 (wo ++ wf)[k] (List.getElem_mem _)
      have hdl := HD.out (oo ++ of)[k] (List.getElem_mem _)
      generalize (oo ++ of)[k] = xo at *
      generalize (wo ++ wf)[k] = xw at *
      obtain ⟨oA, oc, ob, od⟩ := xo
      obtain ⟨wA, wc', wb, wd⟩ := xw
      unfold TL.v at x0 x1
      dsimp only at *
      subst hde
      have HS := Lib.hid (fun W (hW : Fr No wr W) => wTexts oA wA od.length oc od.length wc' od od rfl rfl (by omega) W (ho.fr hW (fun _ _ _ q => q)) (hwr.fr hW (fun _ _ _ q => q)))
      rw [show decide (od = od) = true from decide_eq_true rfl] at HS
      generalize od.length = dl at *
      have hki : (k : Int) < (n : Int) := by omega
      have dk : decide ((k : Int) < (n : Int)) = true := decide_eq_true hki
      have dk' : decide (k < n) = true := decide_eq_true hlt
      clear h2 h3 hcell hcell' hg hg' ho hwr r1 r2 r3 hdl hko hkw
      go_wp2_with fail
      refine (HS.out _ (Fr.refl _ _)).mono ?_
      rintro e w3 ⟨rfl, hF3⟩
      have HF3 := Lib.hid (HF.out.then_ hF3)
      clear hF3 HS x0 x1 y0 y1 y2 yf
      go_wp2
      go_roundw
      case rel => exact ⟨k + 1, by omega, by go_num, HF3⟩
      case measure => simp [intOf]; omega
    · obtain rfl : k = n := by omega
      have dk : decide ((k : Int) < (k : Int)) = false := decide_eq_false (by omega)
      have dk' : decide (k < k) = false := decide_eq_false (by omega)
      go_wp2
      go_ret
      exact ⟨rfl, HF.out⟩
end Go.Proofs.YtdhlbdllidfenaaDoor.Wd
