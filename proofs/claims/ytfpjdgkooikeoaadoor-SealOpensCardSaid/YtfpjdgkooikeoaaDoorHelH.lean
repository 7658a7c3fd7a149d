/- Lists that were handed out, some grown: how they lie. Conditions: none. -/
import Derived.Test.YtfpjdgkooikeoaaDoorHelG
namespace Go.Proofs.YtfpjdgkooikeoaaDoor.Sl
open Go.RowKit Go.Proofs.YtfpjdgkooikeoaaDoor.Mem
set_option linter.unusedVariables false
set_option linter.unusedSimpArgs false
/-- os, ws: the lists ahead of the growing; those from i on own their blocks yet -/
structure Gr (B : Nat) (w : World) (hb : Nat) (os : List HL) (i : Nat) (os' ws' : List HL) : Prop where
  bk : ∃ ro rw vo vw, Bk w hb 56 [vo, vw] ∧ Row w 22 1 ro vo os'.length (os'.map HL.v) ∧ Row w 22 1 rw vw ws'.length (ws'.map HL.v) ∧ (∀ k, ro = some k → B ≤ k) ∧ (∀ k, rw = some k → B ≤ k) ∧ (∀ k, ro = some k → rw ≠ some k)
  eq : os'.map HL.d = ws'.map HL.d
  pre : ∀ (j : Nat) (x : HL), os[j]? = some x → os'[j]? = some x
  un : ∀ (j : Nat) (x : HL), i ≤ j → os[j]? = some x → LR w x
  xn : ∀ (j : Nat) (x : HL), os[j]? = some x → ∀ k, x.b = some k → B ≤ k
  ap : os.Pairwise (fun x y => ∀ k, x.b = some k → y.b ≠ some k)
  rd : ∀ x ∈ os' ++ ws', BR (fun k => B ≤ k ∧ BT w k 5) w x.A x.d
  rs : ∀ x ∈ os' ++ ws', ∀ (j : Nat) (z : HL), i ≤ j → os[j]? = some z → x = z ∨ BR (fun k => z.b ≠ some k) w x.A x.d
  hbn : B ≤ hb
theorem Held.gr {B : Nat} {w : World} {hb : Nat} {ro rw : Option Nat} {os ws : List HL} (h : Held B w hb ro rw os ws) : Gr B w hb os 0 os ws := by
  obtain ⟨vo, vw, h1, h2, h3⟩ := h.bk
  obtain ⟨a1, a2, a3⟩ := List.pairwise_append.1 h.ap
  refine ⟨⟨ro, rw, vo, vw, h1, h2, h3, h.ron, h.rwn, h.ne⟩, h.eq, fun _ _ q => q, fun j x _ hx => h.lr x (List.mem_append_left _ (List.mem_of_getElem? hx)), fun j x hx k hk => h.xn x (List.mem_append_left _ (List.mem_of_getElem? hx)) k hk, a1, fun x hx => ?_, fun x hx j z _ hz => ?_, h.hbn⟩
  · exact Row.br (D := fun k => B ≤ k ∧ BT w k 5) (n := x.d.length) (c := x.c) (h.lr x hx) (fun k hk => ⟨h.xn x hx k hk, Row.bt (h.lr x hx) hk⟩)
  · by_cases hq : x = z
    · exact .inl hq
    · refine .inr (Row.br (D := fun k => z.b ≠ some k) (n := x.d.length) (c := x.c) (h.lr x hx) (fun k hk => ?_))
      rcases List.mem_append.1 hx with hx | hx
      · obtain ⟨j', hj', he⟩ := List.mem_iff_getElem.1 hx
        have hx' : os[j']? = some x := by rw [List.getElem?_eq_getElem hj', he]
        refine ap_idx a1 (fun e => hq ?_) hx' hz k hk
        subst e
        rw [hx'] at hz
        exact Option.some.inj hz
      · exact Ap.symm (a3 z (List.mem_of_getElem? hz) x hx) k hk
theorem Gr.read {B : Nat} {w : World} {hb : Nat} {os os' ws' : List HL} {i : Nat} (h : Gr B w hb os i os' ws') : HeldR B w hb os' ws' := by
  obtain ⟨ro, rw, vo, vw, h1, h2, h3, h4, h5, _⟩ := h.bk
  exact ⟨⟨ro, rw, vo, vw, h1, h2, h3, h4, h5⟩, h.eq, fun x hx => (h.rd x hx).mono (fun _ _ q => q.1), h.hbn⟩
theorem BR.and {D D' : Nat → Prop} {w : World} {A : Option Addr} {l : List UInt8} (h : BR D w A l) (h' : BR D' w A l) : BR (fun k => D k ∧ D' k) w A l := fun j u hj => by
  obtain ⟨ad, rfl, hd, hc⟩ := h j u hj
  obtain ⟨ad', e, hd', _⟩ := h' j u hj
  cases e
  exact ⟨ad, rfl, ⟨hd, hd'⟩, hc⟩
theorem BR.t8 {w w1 : World} {A : Option Addr} {l : List UInt8} {B : Nat} {S : Nat → Prop} (h : BR (fun k => B ≤ k ∧ BT w k 5) w A l) (hf : Fr S w w1) (hn : BR (fun k => ¬ S k) w A l) : BR (fun k => B ≤ k ∧ BT w1 k 5) w1 A l := by
  have h2 := BR.and h hn
  have h3 := h2.fr hf (fun k _ d q => d.2 q)
  intro j u hj
  obtain ⟨ad, e, ⟨⟨d1, d2⟩, d3⟩, c⟩ := h3 j u hj
  exact ⟨ad, e, ⟨d1, d2.fr hf d3⟩, c⟩
/-- one list has grown, and what it must read as: laid by -/
theorem Gr.next {B : Nat} {w w1 : World} {hb : Nat} {os os' ws' : List HL} {i : Nat} (h : Gr B w hb os i os' ws') (z l m : HL) (hz : os[i]? = some z) {S : Nat → Prop} (hf : Fr S w w1)
    (hS : ∀ k, S k → BT w k 5 → z.b = some k) (ro rw : Option Nat) (vo vw : Value) (hbk : Bk w1 hb 56 [vo, vw]) (hro : Row w1 22 1 ro vo (os' ++ [l]).length ((os' ++ [l]).map HL.v)) (hrw : Row w1 22 1 rw vw (ws' ++ [m]).length ((ws' ++ [m]).map HL.v))
    (hron : ∀ k, ro = some k → B ≤ k) (hrwn : ∀ k, rw = some k → B ≤ k) (hne : ∀ k, ro = some k → rw ≠ some k) (hlm : l.d = m.d)
    (hzr : BR (fun k => z.b = some k ∧ BT w1 k 5) w1 z.A z.d) (hl : LR w1 l) (hm : LR w1 m) (hln : ∀ k, l.b = some k → z.b = some k ∨ w.heap.size ≤ k) (hmn : ∀ k, m.b = some k → w.heap.size ≤ k) (hBw : B ≤ w.heap.size) : Gr B w1 hb os (i + 1) (os' ++ [l]) (ws' ++ [m]) := by
  have hold : ∀ (j : Nat) (x : HL), i ≤ j → os[j]? = some x → ∀ k, x.b = some k → k < w.heap.size := fun j x hj hx k hk => (Row.bt (h.un j x hj hx) hk).lt
  have hzB : ∀ k, z.b = some k → B ≤ k := fun k hk => h.xn i z hz k hk
  have hzt : ∀ k, z.b = some k → BT w k 5 := fun k hk => Row.bt (h.un i z (Nat.le_refl _) hz) hk
  have hzt1 : ∀ x, x ∈ os' ++ ws' → x ≠ z → BR (fun k => ¬ S k) w x.A x.d := fun x hx hne => by
    rcases h.rs x hx i z (Nat.le_refl _) hz with q | q
    · exact absurd q hne
    · exact (BR.and (h.rd x hx) q).mono (fun k _ d s => d.2 (hS k s d.1.2))
  have rdz : BR (fun k => B ≤ k ∧ BT w1 k 5) w1 z.A z.d := hzr.mono (fun k _ d => ⟨hzB k d.1, d.2⟩)
  have apz : ∀ (j : Nat) (x : HL), i + 1 ≤ j → os[j]? = some x → Ap z x := fun j x hj hx => ap_idx h.ap (by omega) hz hx
  have hmem : ∀ x, x ∈ (os' ++ [l]) ++ (ws' ++ [m]) → x ∈ os' ++ ws' ∨ x = l ∨ x = m := fun x hx => by
    rcases List.mem_append.1 hx with hx | hx
    · rcases List.mem_append.1 hx with hx | hx
      · exact .inl (List.mem_append_left _ hx)
      · exact .inr (.inl (List.mem_singleton.1 hx))
    · rcases List.mem_append.1 hx with hx | hx
      · exact .inl (List.mem_append_right _ hx)
      · exact .inr (.inr (List.mem_singleton.1 hx))
  refine ⟨⟨ro, rw, vo, vw, hbk, hro, hrw, hron, hrwn, hne⟩, ?_, fun j x hx => ?_, fun j x hj hx => ?_, h.xn, h.ap, fun x hx => ?_, fun x hx j z' hj hz' => ?_, h.hbn⟩
  · rw [List.map_append, List.map_append, h.eq, List.map_cons, List.map_cons, hlm]
  · have := h.pre j x hx
    rw [List.getElem?_append_left (List.getElem?_eq_some_iff.1 this).1]
    exact this
  · have hx0 := h.un j x (by omega) hx
    exact hx0.fr hf (fun k hk s => apz j x hj hx k (hS k s (Row.bt hx0 hk)) hk)
  · rcases hmem x hx with hx | rfl | rfl
    · by_cases hq : x = z
      · rw [hq]; exact rdz
      · exact BR.t8 (h.rd x hx) hf (hzt1 x hx hq)
    · exact Row.br (D := fun k => B ≤ k ∧ BT w1 k 5) (n := x.d.length) (c := x.c) hl (fun k hk => ⟨by
        rcases hln k hk with q | q
        · exact hzB k q
        · omega, Row.bt hl hk⟩)
    · exact Row.br (D := fun k => B ≤ k ∧ BT w1 k 5) (n := x.d.length) (c := x.c) hm (fun k hk => ⟨by have := hmn k hk; omega, Row.bt hm hk⟩)
  · rcases hmem x hx with hx | rfl | rfl
    · by_cases hq : x = z
      · rw [hq]
        exact .inr (hzr.mono (fun k _ d e => apz j z' hj hz' k d.1 e))
      · rcases h.rs x hx j z' (by omega) hz' with q | q
        · exact .inl q
        · exact .inr (((BR.and q (hzt1 x hx hq)).fr hf (fun k _ d s => d.2 s)).mono (fun k _ d => d.1))
    · refine .inr (Row.br (D := fun k => z'.b ≠ some k) (n := x.d.length) (c := x.c) hl (fun k hk e => ?_))
      rcases hln k hk with q | q
      · exact apz j z' hj hz' k q e
      · have := hold j z' (by omega) hz' k e
        omega
    · refine .inr (Row.br (D := fun k => z'.b ≠ some k) (n := x.d.length) (c := x.c) hm (fun k hk e => ?_))
      have h1 := hmn k hk
      have h2 := hold j z' (by omega) hz' k e
      omega
end Go.Proofs.YtfpjdgkooikeoaaDoor.Sl
