/- Words: the book: a mark is written into a list that was handed out, and into what it must read as. No walk. Conditions: none. -/
import Derived.Test.YtdhlbdllidfenaaDoorBkD
namespace Go.Proofs.YtdhlbdllidfenaaDoor.Wd
open Go.RowKit Go.Proofs.YtdhlbdllidfenaaDoor.Mem
set_option linter.unusedVariables false
set_option linter.unusedSimpArgs false
def mkd (x : TL) (k : Nat) (u : List UInt8) : TL := ⟨x.A, x.c, x.b, x.d.set k u⟩
structure Fsh (w : World) (fs : List TL) : Prop where
  lr : ∀ z ∈ fs, LT w z
  ap : fs.Pairwise (fun x y => ∀ k, x.b = some k → y.b ≠ some k)
theorem Fsh.apart {w : World} {fs : List TL} (h : Fsh w fs) {i j : Nat} (hi : i < fs.length) (hj : j < fs.length) (hne : i ≠ j) (k : Nat) (e : fs[i].b = some k) : fs[j].b ≠ some k := by
  rcases Nat.lt_or_gt_of_ne hne with q | q
  · exact List.pairwise_iff_getElem.1 h.ap i j hi hj q k e
  · exact fun e' => List.pairwise_iff_getElem.1 h.ap j i hj hi q k e' e
theorem set_b {fs : List TL} {p : Nat} (hp : p < fs.length) {x' : TL} (hx : x'.b = fs[p].b) : (fs.set p x').map TL.b = fs.map TL.b := by
  rw [List.map_set, hx]
  apply List.ext_getElem
  · simp
  · intro i h1 h2
    rw [List.getElem_set]
    split
    · rename_i h
      subst h
      simp
    · rfl
theorem ap_map {fs : List TL} : fs.Pairwise (fun x y => ∀ k, x.b = some k → y.b ≠ some k) ↔ (fs.map TL.b).Pairwise (fun a b => ∀ k, a = some k → b ≠ some k) := by rw [List.pairwise_map]
theorem Fsh.fr {S : Nat → Prop} {w w1 : World} {fs : List TL} (h : Fsh w fs) (hf : Fr S w w1) (hn : ∀ x ∈ fs, ∀ k, x.b = some k → ¬ S k) : Fsh w1 fs := ⟨fun z hz => (h.lr z hz).fr hf (hn z hz), h.ap⟩
theorem Fsh.mark {w : World} {fs : List TL} (h : Fsh w fs) {p k g : Nat} (hp : p < fs.length) (hk : k < fs[p].d.length) (hg : fs[p].b = some g) (u : List UInt8) : Fsh (w.setCell ⟨g, k, none⟩ (sv u)) (fs.set p (mkd fs[p] k u)) := by
  refine ⟨fun z hz => ?_, ap_map.2 (by rw [set_b hp (x' := mkd fs[p] k u) rfl]; exact ap_map.1 h.ap)⟩
  obtain ⟨q, hq, rfl⟩ := List.mem_iff_getElem.1 hz
  rw [List.length_set] at hq
  rw [List.getElem_set]
  split
  · rename_i e
    have h1 : Row w 9 1 fs[p].b fs[p].v fs[p].d.length (fs[p].d.map sv) := h.lr _ (List.getElem_mem hp)
    have h2 := Row.set h1 hg k (sv u) (by rw [List.length_map]; exact hk)
    show Row _ 9 1 fs[p].b (.slice fs[p].A (fs[p].d.set k u).length fs[p].c) (fs[p].d.set k u).length ((fs[p].d.set k u).map sv)
    rw [List.length_set, List.map_set]
    exact h2
  · rename_i e
    refine (h.lr _ (List.getElem_mem hq)).fr (S := fun b => b = g) ((Fr.refl (fun b => b = g) w).set (p := ⟨g, k, none⟩) (.inl rfl) (sv u)) (fun k' hk' e' => ?_)
    subst e'
    exact h.apart hp hq e _ hg hk'
theorem TR.blocks {fs gs : List TL} {w : World} {A : Option Addr} {l : List (List UInt8)} (h : TR (Far fs w) w A l) (hs : gs.map TL.b = fs.map TL.b) : TR (Far gs w) w A l := fun j u hj => by
  obtain ⟨ad, h1, ⟨h2, h3⟩, h4⟩ := h j u hj
  refine ⟨ad, h1, ⟨h2, fun y hy e => ?_⟩, h4⟩
  have : y.b ∈ fs.map TL.b := by rw [← hs]; exact List.mem_map.2 ⟨y, hy, rfl⟩
  obtain ⟨y', hy', e'⟩ := List.mem_map.1 this
  exact h3 y' hy' (e'.trans e)
theorem Bok.mark {B : Nat → Prop} {w w1 w3 : World} {hb m : Nat} {ro rw : Option Nat} {oo wo of wf : List TL} (h : Bok B w hb ro rw m oo wo of wf) {t k g g' : Nat} (ht : t < of.length) (ht' : t < wf.length) (hk : k < of[t].d.length) (hg : of[t].b = some g) (hg' : wf[t].b = some g') (u : List UInt8)
    (hF1 : Fr No w w1) (hF3 : Fr No (w1.setCell ⟨g, k, none⟩ (sv u)) w3) :
    Bok B (w3.setCell ⟨g', k, none⟩ (sv u)) hb ro rw m oo wo (of.set t (mkd of[t] k u)) (wf.set t (mkd wf[t] k u)) ∧ Fr (fun q => q = g ∨ q = g') w (w3.setCell ⟨g', k, none⟩ (sv u)) := by
  have hde : of[t].d = wf[t].d := by
    have z : (of.map TL.d)[t]? = (wf.map TL.d)[t]? := by rw [h.ef]
    rw [List.getElem?_map, List.getElem?_map, List.getElem?_eq_getElem ht, List.getElem?_eq_getElem ht'] at z
    exact Option.some.inj z
  have hFw : Fr (fun q => q = g ∨ q = g') w (w3.setCell ⟨g', k, none⟩ (sv u)) :=
    ((((hF1.mono (S' := fun q => q = g ∨ q = g') (fun _ _ q => q.elim)).set (p := ⟨g, k, none⟩) (.inl (.inl rfl)) (sv u)).trans hF3 (fun _ _ q => q.elim))).set (p := ⟨g', k, none⟩) (.inl (.inr rfl)) (sv u)
  have hp1 : t < (of ++ wf).length := by rw [List.length_append]; omega
  have e1 : (of ++ wf)[t] = of[t] := List.getElem_append_left ht
  have f1 : Fsh w1 (of ++ wf) := (Fsh.mk h.lr h.ap).fr hF1 (fun _ _ _ _ q => q)
  have f2 := f1.mark (p := t) (k := k) (g := g) hp1 (by rw [e1]; exact hk) (by rw [e1]; exact hg) u
  rw [e1, List.set_append_left _ _ ht] at f2
  have f3 := f2.fr hF3 (fun _ _ _ _ q => q)
  have hp2 : of.length + t < (of.set t (mkd of[t] k u) ++ wf).length := by rw [List.length_append, List.length_set]; omega
  have e2 : (of.set t (mkd of[t] k u) ++ wf)[of.length + t] = wf[t] := by
    rw [List.getElem_append_right (by rw [List.length_set]; omega)]
    congr 1
    rw [List.length_set]; omega
  have f4 := f3.mark (p := of.length + t) (k := k) (g := g') hp2 (by rw [e2, ← hde]; exact hk) (by rw [e2]; exact hg') u
  rw [e2, List.set_append_right _ _ (by rw [List.length_set]; omega), List.length_set, Nat.add_sub_cancel_left] at f4
  have hbs : (of.set t (mkd of[t] k u) ++ wf.set t (mkd wf[t] k u)).map TL.b = (of ++ wf).map TL.b := by
    rw [List.map_append, List.map_append, set_b ht (x' := mkd of[t] k u) rfl, set_b ht' (x' := mkd wf[t] k u) rfl]
  have hmem : ∀ q, (q = g ∨ q = g') → ∃ y ∈ of ++ wf, y.b = some q := fun q hq => by
    rcases hq with rfl | rfl
    · exact ⟨_, List.mem_append_left _ (List.getElem_mem ht), hg⟩
    · exact ⟨_, List.mem_append_right _ (List.getElem_mem ht'), hg'⟩
  have hstr : ∀ q, (q = g ∨ q = g') → BT w q 9 := fun q hq => by
    obtain ⟨y, hy, e⟩ := hmem q hq
    exact Row.bt (h.lr y hy) e
  obtain ⟨vo, vw, h1, h2, h3⟩ := h.bk
  have hvo : ∀ (xs : List TL) (x : TL), (hp : t < xs.length) → (xs.set t (mkd xs[t] k u)).map TL.v = xs.map TL.v := fun xs _ hp => by
    apply List.ext_getElem
    · simp
    · intro i i1 i2
      rw [List.getElem_map, List.getElem_map, List.getElem_set]
      split
      · rename_i e
        subst e
        show Value.slice xs[t].A (xs[t].d.set k u).length xs[t].c = _
        rw [List.length_set]; rfl
      · rfl
  refine ⟨⟨⟨vo, vw, h1.fr hFw (fun q => (hstr _ q).ne h1.bt (by decide) rfl), ?_, ?_⟩, h.lo, h.lw, h.eo, ?_, fun x hx => ?_, f4.lr, f4.ap, h.ne, h.hbn, h.ron, h.rwn, fun x hx q e => ?_, h.ob⟩, hFw⟩
  · have := h2.fr hFw (fun q hq hs => (hstr _ hs).ne (h2.bt hq) (by decide) rfl)
    rw [List.map_append, hvo of of[t] ht, List.length_append, List.length_set]
    rw [List.map_append, List.length_append] at this
    exact this
  · have := h3.fr hFw (fun q hq hs => (hstr _ hs).ne (h3.bt hq) (by decide) rfl)
    rw [List.map_append, hvo wf wf[t] ht', List.length_append, List.length_set]
    rw [List.map_append, List.length_append] at this
    exact this
  · rw [List.map_set, List.map_set, h.ef]
    show _ = (wf.map TL.d).set t (wf[t].d.set k u)
    rw [← hde]; rfl
  · exact ((h.rd x hx).frT hFw (fun q hq _ => hmem q hq)).blocks hbs
  · have : x.b ∈ (of ++ wf).map TL.b := by rw [← hbs]; exact List.mem_map.2 ⟨x, hx, rfl⟩
    obtain ⟨y', hy', e'⟩ := List.mem_map.1 this
    exact h.xn y' hy' q (e'.trans e)
end Go.Proofs.YtdhlbdllidfenaaDoor.Wd
