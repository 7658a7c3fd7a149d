/- Lists that were handed out: a byte of one is written, in both. Conditions: none. -/
import Derived.Test.YtfpjdgkooikeoaaDoorHelF
import Derived.Test.YtfpjdgkooikeoaaDoorSealN
namespace Go.Proofs.YtfpjdgkooikeoaaDoor.Sl
open Go.RowKit Go.Proofs.YtfpjdgkooikeoaaDoor.Mem
set_option linter.unusedVariables false
set_option linter.unusedSimpArgs false
def HL.put (x : HL) (k : Nat) (v : UInt8) : HL := ⟨x.A, x.c, x.b, x.d.set k v⟩
theorem HL.put_v (x : HL) (k : Nat) (v : UInt8) : (x.put k v).v = x.v := by unfold HL.put HL.v; dsimp only; rw [List.length_set]
theorem set_self {α : Type} {l : List α} {i : Nat} {x : α} (h : l[i]? = some x) : l.set i x = l := by
  apply List.ext_getElem?
  intro j
  rw [List.getElem?_set]
  split
  · rename_i e
    subst e
    rw [h, if_pos (List.getElem?_eq_some_iff.1 h).1]
  · rfl
theorem mem_set {l : List HL} {i : Nat} {a z : HL} (h : z ∈ l.set i a) : z = a ∨ ∃ j, j ≠ i ∧ l[j]? = some z := by
  obtain ⟨j, hj, rfl⟩ := List.mem_iff_getElem.1 h
  rw [List.length_set] at hj
  rw [List.getElem_set]
  split
  · exact .inl rfl
  · rename_i e
    exact .inr ⟨j, fun q => e q.symm, List.getElem?_eq_getElem hj⟩
theorem map_set_b (l : List HL) (i k : Nat) (v : UInt8) (x : HL) (h : l[i]? = some x) : (l.set i (x.put k v)).map HL.b = l.map HL.b := by
  rw [List.map_set]
  exact set_self (by rw [List.getElem?_map, h]; rfl)
theorem map_set_v (l : List HL) (i k : Nat) (v : UInt8) (x : HL) (h : l[i]? = some x) : (l.set i (x.put k v)).map HL.v = l.map HL.v := by
  rw [List.map_set, HL.put_v]
  exact set_self (by rw [List.getElem?_map, h]; rfl)
theorem ap_map {l : List HL} : l.Pairwise (fun x y => ∀ k, x.b = some k → y.b ≠ some k) ↔ (l.map HL.b).Pairwise (fun x y => ∀ k, x = some k → y ≠ some k) := by rw [List.pairwise_map]
theorem ap_idx {l : List HL} (h : l.Pairwise (fun x y => ∀ k, x.b = some k → y.b ≠ some k)) {i j : Nat} {x y : HL} (hij : i ≠ j) (hx : l[i]? = some x) (hy : l[j]? = some y) : Ap x y := by
  obtain ⟨hi, rfl⟩ := List.getElem?_eq_some_iff.1 hx
  obtain ⟨hj, rfl⟩ := List.getElem?_eq_some_iff.1 hy
  rcases Nat.lt_or_gt_of_ne hij with h1 | h1
  · exact List.pairwise_iff_getElem.1 h i j hi hj h1
  · exact Ap.symm (List.pairwise_iff_getElem.1 h j i hj hi h1)
/-- a byte is written, in the list and in what it must read as -/
theorem Held.put {B : Nat} {w : World} {hb : Nat} {ro rw : Option Nat} {os ws : List HL} (h : Held B w hb ro rw os ws) (i k : Nat) (v : UInt8) (x y : HL) (hx : os[i]? = some x) (hy : ws[i]? = some y) (hk : k < x.d.length) :
    ∃ g g', x.b = some g ∧ x.A = some ⟨g, 0, none⟩ ∧ y.b = some g' ∧ y.A = some ⟨g', 0, none⟩ ∧ x.d.length ≤ x.c ∧ y.d.length ≤ y.c ∧ (∃ u, w.cell? ⟨g, k, none⟩ = some u) ∧ w.frozen? ⟨g, k, none⟩ = false ∧ (∃ u, (w.setCell ⟨g, k, none⟩ (.int .u8 (v.toNat : Int))).cell? ⟨g', k, none⟩ = some u) ∧ (w.setCell ⟨g, k, none⟩ (.int .u8 (v.toNat : Int))).frozen? ⟨g', k, none⟩ = false ∧ g ≠ hb ∧ g' ≠ hb ∧ B ≤ g ∧ B ≤ g' ∧
      Held B ((w.setCell ⟨g, k, none⟩ (.int .u8 (v.toNat : Int))).setCell ⟨g', k, none⟩ (.int .u8 (v.toNat : Int))) hb ro rw (os.set i (x.put k v)) (ws.set i (y.put k v)) := by
  have hxm : x ∈ os ++ ws := List.mem_append_left _ (List.mem_of_getElem? hx)
  have hym : y ∈ os ++ ws := List.mem_append_right _ (List.mem_of_getElem? hy)
  have hxd : x.d = y.d := by
    have := congrArg (fun l => l[i]?) h.eq
    simpa [List.getElem?_map, hx, hy] using this
  have hxr := h.lr x hxm
  have hyr := h.lr y hym
  obtain ⟨g, c, hg, hv, hle, hcell, hfr⟩ := hxr.at_ (by omega)
  obtain ⟨g', c', hg', hv', hle', hcell', hfr'⟩ := hyr.at_ (by rw [← hxd]; omega)
  have hA : x.A = some ⟨g, 0, none⟩ ∧ x.c = c := by unfold HL.v at hv; injection hv with e1 _ e3; exact ⟨e1, e3⟩
  have hA' : y.A = some ⟨g', 0, none⟩ ∧ y.c = c' := by unfold HL.v at hv'; injection hv' with e1 _ e3; exact ⟨e1, e3⟩
  have hil : i < os.length := (List.getElem?_eq_some_iff.1 hx).1
  have hapxy : Ap x y := (List.pairwise_append.1 h.ap).2.2 x (List.mem_of_getElem? hx) y (List.mem_of_getElem? hy)
  have hgg : g ≠ g' := fun q => hapxy g hg (by rw [hg', q])
  obtain ⟨vo, vw, b1, b2, b3⟩ := h.bk
  have hghb : g ≠ hb := fun q => (Row.bt hxr hg).ne b1.bt (by decide) q
  have hghb' : g' ≠ hb := fun q => (Row.bt hyr hg').ne b1.bt (by decide) q
  have hF1 : Fr (fun q => q = g) w (w.setCell ⟨g, k, none⟩ (.int .u8 (v.toNat : Int))) := (Fr.refl (fun q => q = g) w).set (p := ⟨g, k, none⟩) (.inl rfl) _
  have hF2 : Fr (fun q => q = g') (w.setCell ⟨g, k, none⟩ (.int .u8 (v.toNat : Int))) ((w.setCell ⟨g, k, none⟩ (.int .u8 (v.toNat : Int))).setCell ⟨g', k, none⟩ (.int .u8 (v.toNat : Int))) := (Fr.refl (fun q => q = g') _).set (p := ⟨g', k, none⟩) (.inl rfl) _
  have hy1 : LR (w.setCell ⟨g, k, none⟩ (.int .u8 (v.toNat : Int))) y := hyr.fr hF1 (fun q hq e => by rw [hg'] at hq; cases hq; exact hgg e.symm)
  obtain ⟨g2, _, hg2, _, _, hcell2, hfr2⟩ := Row.at_ hy1 (by rw [← hxd]; omega)
  rw [hg'] at hg2
  cases hg2
  have hxl : (bv x.d).length = x.d.length := bv_len _
  have hyl : (bv y.d).length = y.d.length := bv_len _
  have hF12 : Fr (fun q => q = g ∨ q = g') w ((w.setCell ⟨g, k, none⟩ (.int .u8 (v.toNat : Int))).setCell ⟨g', k, none⟩ (.int .u8 (v.toNat : Int))) := (hF1.mono (S' := fun q => q = g ∨ q = g') (fun _ _ q => .inl q)).trans hF2 (fun _ _ q => .inr q)
  have t8 : ∀ q, (q = g ∨ q = g') → BT w q 5 := fun q hq => by
    rcases hq with rfl | rfl
    · exact Row.bt hxr hg
    · exact Row.bt hyr hg'
  have hxp : LR ((w.setCell ⟨g, k, none⟩ (.int .u8 (v.toNat : Int))).setCell ⟨g', k, none⟩ (.int .u8 (v.toNat : Int))) (x.put k v) := by
    have r1 := Row.set hxr hg k (.int .u8 (v.toNat : Int)) (by omega)
    rw [bv_set] at r1
    have r2 := r1.fr hF2 (fun q hq e => by rw [hg] at hq; cases hq; exact hgg e)
    unfold LR
    rw [HL.put_v]
    unfold HL.put
    dsimp only
    rw [List.length_set]
    exact r2
  have hyp : LR ((w.setCell ⟨g, k, none⟩ (.int .u8 (v.toNat : Int))).setCell ⟨g', k, none⟩ (.int .u8 (v.toNat : Int))) (y.put k v) := by
    have r1 := Row.set hy1 hg' k (.int .u8 (v.toNat : Int)) (by rw [hyl, ← hxd]; exact hk)
    rw [bv_set] at r1
    unfold LR
    rw [HL.put_v]
    unfold HL.put
    dsimp only
    rw [List.length_set]
    exact r1
  refine ⟨g, g', hg, hA.1, hg', hA'.1, by rw [hA.2]; exact hle, by rw [hA'.2]; exact hle', ⟨_, hcell k _ (List.getElem?_eq_getElem (by omega))⟩, hfr k, ⟨_, hcell2 k _ (List.getElem?_eq_getElem (by rw [hyl, ← hxd]; exact hk))⟩, hfr2 k, hghb, hghb', h.xn x hxm g hg, h.xn y hym g' hg', ?_⟩
  refine ⟨⟨vo, vw, b1.fr hF12 (fun q => ?_), ?_, ?_⟩, ?_, fun z hz => ?_, ?_, h.ne, h.hbn, h.ron, h.rwn, fun z hz => ?_⟩
  · rcases q with q | q
    · exact hghb q.symm
    · exact hghb' q.symm
  · rw [List.length_set, map_set_v _ _ _ _ _ hx]
    exact b2.fr hF12 (fun q hq e => (b2.bt hq).ne (t8 q e) (by decide) rfl)
  · rw [List.length_set, map_set_v _ _ _ _ _ hy]
    exact b3.fr hF12 (fun q hq e => (b3.bt hq).ne (t8 q e) (by decide) rfl)
  · rw [List.map_set, List.map_set, h.eq]
    unfold HL.put
    dsimp only
    rw [hxd]
  · have other : ∀ z, z ∈ os ++ ws → Ap x z → Ap y z → LR ((w.setCell ⟨g, k, none⟩ (.int .u8 (v.toNat : Int))).setCell ⟨g', k, none⟩ (.int .u8 (v.toNat : Int))) z := fun z hz h1 h2 => (h.lr z hz).fr hF12 (fun q hq e => by
      rcases e with rfl | rfl
      · exact h1 _ hg hq
      · exact h2 _ hg' hq)
    obtain ⟨a1, a2, a3⟩ := List.pairwise_append.1 h.ap
    rcases List.mem_append.1 hz with hz | hz
    · rcases mem_set hz with rfl | ⟨j, hj, hzj⟩
      · exact hxp
      · exact other z (List.mem_append_left _ (List.mem_of_getElem? hzj)) (ap_idx a1 (fun q => hj q.symm) hx hzj) (Ap.symm (a3 z (List.mem_of_getElem? hzj) y (List.mem_of_getElem? hy)))
    · rcases mem_set hz with rfl | ⟨j, hj, hzj⟩
      · exact hyp
      · exact other z (List.mem_append_right _ (List.mem_of_getElem? hzj)) (a3 x (List.mem_of_getElem? hx) z (List.mem_of_getElem? hzj)) (ap_idx a2 (fun q => hj q.symm) hy hzj)
  · have := ap_map.1 h.ap
    apply ap_map.2
    rw [List.map_append, map_set_b _ _ _ _ _ hx, map_set_b _ _ _ _ _ hy, ← List.map_append]
    exact this
  · intro q hq
    rcases List.mem_append.1 hz with hz | hz
    · rcases mem_set hz with rfl | ⟨j, hj, hzj⟩
      · exact h.xn x hxm q hq
      · exact h.xn z (List.mem_append_left _ (List.mem_of_getElem? hzj)) q hq
    · rcases mem_set hz with rfl | ⟨j, hj, hzj⟩
      · exact h.xn y hym q hq
      · exact h.xn z (List.mem_append_right _ (List.mem_of_getElem? hzj)) q hq
end Go.Proofs.YtfpjdgkooikeoaaDoor.Sl
