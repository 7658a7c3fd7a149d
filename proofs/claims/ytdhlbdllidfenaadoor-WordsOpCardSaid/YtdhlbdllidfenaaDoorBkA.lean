/- Words: lists that were handed out (the book): how they lie; one more is laid by. Conditions: none. -/
import Derived.Test.YtdhlbdllidfenaaDoorWdV
namespace Go.Proofs.YtdhlbdllidfenaaDoor.Wd
open Go.RowKit Go.Proofs.YtdhlbdllidfenaaDoor.Mem
set_option linter.unusedVariables false
set_option linter.unusedSimpArgs false
structure TL where (A : Option Addr) (c : Nat) (b : Option Nat) (d : List (List UInt8))
def TL.v (x : TL) : Value := .slice x.A x.d.length x.c
def LT (w : World) (x : TL) : Prop := Row w 9 1 x.b x.v x.d.length (x.d.map sv)
/-- what is only read now: away from the lists that are written still -/
def Far (fs : List TL) (w : World) : Nat → Prop := fun k => BT w k 9 ∧ ∀ y ∈ fs, y.b ≠ some k
theorem TR.frT {S : Nat → Prop} {fs : List TL} {w w1 : World} {A : Option Addr} {l : List (List UInt8)} (h : TR (Far fs w) w A l) (hf : Fr S w w1) (hn : ∀ k, S k → BT w k 9 → ∃ y ∈ fs, y.b = some k) : TR (Far fs w1) w1 A l := fun j u hj => by
  obtain ⟨ad, h1, ⟨h2, h3⟩, h4⟩ := h j u hj
  have hb : (ad.add j).block = ad.block := add_block _ _
  have hlt := cell_lt h4
  rw [hb] at hlt
  have hs : ¬ S ad.block := fun q => by
    obtain ⟨y, hy, e⟩ := hn _ q h2
    exact h3 y hy e
  refine ⟨ad, h1, ⟨h2.fr hf hs, h3⟩, ?_⟩
  have := hf.block ad.block hlt hs
  rw [← h4]
  unfold World.cell?
  rw [hb, this]
theorem TR.more {fs : List TL} {w : World} {A : Option Addr} {l : List (List UInt8)} (gs : List TL) (h : TR (Far fs w) w A l) (hn : ∀ y ∈ gs, ∀ k, y.b = some k → w.heap.size ≤ k ∨ TR (fun q => q ≠ k) w A l) : TR (Far (fs ++ gs) w) w A l := fun j u hj => by
  obtain ⟨ad, h1, ⟨h2, h3⟩, h4⟩ := h j u hj
  refine ⟨ad, h1, ⟨h2, fun y hy e => ?_⟩, h4⟩
  rcases List.mem_append.1 hy with hy | hy
  · exact h3 y hy e
  · rcases hn y hy _ e with q | q
    · have := h2.lt; omega
    · obtain ⟨ad', h1', h2', _⟩ := q j u hj
      rw [h1] at h1'
      cases h1'
      exact h2' rfl
structure Bok (B : Nat → Prop) (w : World) (hb : Nat) (ro rw : Option Nat) (m : Nat) (oo wo of wf : List TL) : Prop where
  bk : ∃ vo vw, Bk w hb 32 [vo, vw, .int .i64 (m : Int)] ∧ Row w 26 1 ro vo (oo ++ of).length ((oo ++ of).map TL.v) ∧ Row w 26 1 rw vw (wo ++ wf).length ((wo ++ wf).map TL.v)
  lo : oo.length = m
  lw : wo.length = m
  eo : oo.map TL.d = wo.map TL.d
  ef : of.map TL.d = wf.map TL.d
  rd : ∀ x ∈ oo ++ wo, TR (Far (of ++ wf) w) w x.A x.d
  lr : ∀ x ∈ of ++ wf, LT w x
  ap : (of ++ wf).Pairwise (fun x y => ∀ k, x.b = some k → y.b ≠ some k)
  ne : ∀ k, ro = some k → rw ≠ some k
  hbn : B hb
  ron : ∀ k, ro = some k → B k
  rwn : ∀ k, rw = some k → B k
  xn : ∀ x ∈ of ++ wf, ∀ k, x.b = some k → B k
  ob : ∀ x ∈ oo ++ wo, x.d ≠ [] → ∀ ad, x.A = some ad → B ad.block
theorem LT.fr {S : Nat → Prop} {w w1 : World} {x : TL} (h : LT w x) (hf : Fr S w w1) (hn : ∀ k, x.b = some k → ¬ S k) : LT w1 x := Row.fr h hf hn
theorem Bok.no {B : Nat → Prop} {w w1 : World} {hb m : Nat} {ro rw : Option Nat} {oo wo of wf : List TL} (h : Bok B w hb ro rw m oo wo of wf) (hf : Fr No w w1) : Bok B w1 hb ro rw m oo wo of wf := by
  obtain ⟨vo, vw, h1, h2, h3⟩ := h.bk
  exact ⟨⟨vo, vw, h1.fr hf id, h2.fr hf (fun _ _ q => q), h3.fr hf (fun _ _ q => q)⟩, h.lo, h.lw, h.eo, h.ef, fun x hx => (h.rd x hx).frT hf (fun _ q => q.elim), fun x hx => (h.lr x hx).fr hf (fun _ _ q => q), h.ap, h.ne, h.hbn, h.ron, h.rwn, h.xn, h.ob⟩
theorem Row.blk {w : World} {b : Option Nat} {A : Option Addr} {c n : Nat} {xs : List Value} (h : Row w 9 1 b (.slice A n c) n xs) (hn : 0 < n) {ad : Addr} (hA : A = some ad) : b = some ad.block := by
  obtain ⟨g, c', hg, hv, _⟩ := h.at_ hn
  injection hv with e1 _ _
  rw [hA] at e1
  cases e1
  exact hg
theorem LT.blk {w : World} {x : TL} (h : LT w x) (hd : x.d ≠ []) {ad : Addr} (hA : x.A = some ad) : x.b = some ad.block := Row.blk (n := x.d.length) (c := x.c) h (List.length_pos_iff.2 hd) hA
theorem infoSs : (Tryd.prog.info? 26).map (fun i => (i.zero, i.size, i.bytes)) = some (some (.slice none 0 0), 1, 24) := by kernel_rfl
def Ap (x y : TL) : Prop := ∀ k, x.b = some k → y.b ≠ some k
theorem Ap.symm {x y : TL} (h : Ap x y) : Ap y x := fun k hy hx => h k hx hy
theorem ap_more {os ws : List TL} {x y : TL} (h : (os ++ ws).Pairwise (fun x y => ∀ k, x.b = some k → y.b ≠ some k)) (hx : ∀ z ∈ os ++ ws, Ap x z) (hy : ∀ z ∈ os ++ ws, Ap y z) (hxy : Ap x y) : ((os ++ [x]) ++ (ws ++ [y])).Pairwise (fun x y => ∀ k, x.b = some k → y.b ≠ some k) := by
  obtain ⟨h1, h2, h3⟩ := List.pairwise_append.1 h
  refine List.pairwise_append.2 ⟨List.pairwise_append.2 ⟨h1, List.pairwise_singleton .., fun a ha b hb => ?_⟩, List.pairwise_append.2 ⟨h2, List.pairwise_singleton .., fun a ha b hb => ?_⟩, fun a ha b hb => ?_⟩
  · rw [List.mem_singleton.1 hb]; exact (hx a (List.mem_append_left _ ha)).symm
  · rw [List.mem_singleton.1 hb]; exact (hy a (List.mem_append_right _ ha)).symm
  · rcases List.mem_append.1 ha with ha | ha
    · rcases List.mem_append.1 hb with hb | hb
      · exact h3 a ha b hb
      · rw [List.mem_singleton.1 hb]; exact (hy a (List.mem_append_left _ ha)).symm
    · rw [List.mem_singleton.1 ha]
      rcases List.mem_append.1 hb with hb | hb
      · exact hx b (List.mem_append_right _ hb)
      · rw [List.mem_singleton.1 hb]; exact hxy
theorem TR.mem {fs gs : List TL} {w : World} {A : Option Addr} {l : List (List UInt8)} (h : TR (Far fs w) w A l) (hs : ∀ y ∈ gs, y ∈ fs) : TR (Far gs w) w A l := fun j u hj => by
  obtain ⟨ad, h1, ⟨h2, h3⟩, h4⟩ := h j u hj
  exact ⟨ad, h1, ⟨h2, fun y hy => h3 y (hs y hy)⟩, h4⟩
set_option maxHeartbeats 4000000 in
set_option maxRecDepth 100000 in
theorem bkeep (B : Nat → Prop) (w : World) (hb : Nat) (ro rw : Option Nat) (m : Nat) (oo wo of wf : List TL) (h : Bok B w hb ro rw m oo wo of wf) (hB : ∀ k, w.heap.size ≤ k → B k) (x : TL) (hx : LT w x) (hxb : ∀ k, x.b = some k → B k) (hxa : ∀ y ∈ of ++ wf, ∀ k, x.b = some k → y.b ≠ some k)
    (hxo : ∀ z ∈ oo ++ wo, ∀ k, x.b = some k → TR (fun q => q ≠ k) w z.A z.d) (hn : (oo ++ of).length ≤ 1000000) (hd : x.d.length ≤ 4000000000000) :
    Calls Tryd.prog 31 #[.pointer (some ⟨hb, 0, none⟩), x.v] w fun e w' => e = .returned (.tuple #[]) ∧ ∃ ro' rw' y, Bok B w' hb ro' rw' m oo wo (of ++ [x]) (wf ++ [y]) ∧ y.d = x.d ∧ (∀ k, y.b = some k → w.heap.size ≤ k) ∧ Fr (fun k => k = hb ∨ ro = some k ∨ rw = some k) w w' := by
  have H := Lib.hid h
  have HX := Lib.hid hx
  have HXO := Lib.hid hxo
  have HXA := Lib.hid hxa
  obtain ⟨vo, vw, h1, h2, h3⟩ := h.bk
  obtain ⟨os, hos⟩ : ∃ os, oo ++ of = os := ⟨_, rfl⟩
  obtain ⟨ws, hws⟩ : ∃ ws, wo ++ wf = ws := ⟨_, rfl⟩
  have HOS := Lib.hid hos
  have HWS := Lib.hid hws
  rw [hos] at h2 hn
  rw [hws] at h3
  obtain ⟨xA, xc, xb, xd⟩ := x
  unfold LT at HX
  unfold TL.v at HX ⊢
  dsimp only at *
  obtain ⟨Ao, co, rfl, _⟩ := h2.val
  obtain ⟨Aw, cw, rfl, _⟩ := h3.val
  obtain ⟨n, hnn⟩ : ∃ n, os.length = n := ⟨_, rfl⟩
  have hwn : ws.length = n := by
    have e1 := congrArg List.length h.eo
    have e2 := congrArg List.length h.ef
    rw [List.length_map, List.length_map] at e1 e2
    rw [← hnn, ← hos, ← hws, List.length_append, List.length_append, e1, e2]
  rw [hnn] at h1 h2 hn
  rw [hwn] at h1 h3
  have HNN := Lib.hid hnn
  have HWN := Lib.hid hwn
  obtain ⟨y0, y1, y2, yf⟩ := h1.three
  obtain ⟨L, hL⟩ : ∃ L, xd.length = L := ⟨_, rfl⟩
  have HLL := Lib.hid hL
  rw [hL] at HX hd ⊢
  obtain ⟨w1, hw1⟩ : ∃ w1, w.alloc (.cells #[.slice xA L xc] 26 (0, 0)) = w1 := ⟨_, rfl⟩
  have hF1 : Fr No w w1 := by rw [← hw1]; exact (Fr.refl _ _).alloc _
  have HNEW := Lib.hid (fun (_ : 0 < 1) => show ∃ ad, some (⟨w.heap.size, 0, none⟩ : Addr) = some ad ∧ ∀ (j : Nat) (u : Value), [Value.slice xA L xc][j]? = some u → w1.cell? (ad.add j) = some u from
    ⟨_, rfl, fun j u hj => by rw [add0, ← hw1]; exact ((Bk.new w 26 [Value.slice xA L xc]).cell j).trans hj⟩)
  have HR1 := Lib.hid (h2.fr hF1 (fun _ _ q => q))
  have HW1 := Lib.hid (h3.fr hF1 (fun _ _ q => q))
  have HK1 := Lib.hid (h1.fr hF1 id)
  have hne : ¬ (ro = some hb) := fun q => (h2.bt q).ne h1.bt (by decide) rfl
  have HNE := Lib.hid hne
  have HNW := Lib.hid (show ¬ (rw = some hb) from fun q => (h3.bt q).ne h1.bt (by decide) rfl)
  have HF1 := Lib.hid hF1
  clear h h1 h2 h3 hx hF1 hne hos hws hnn hwn hL hxo hxa
  go_enter Tryd.func31, Tryd.ntmps31
  go_wp2_with (at_builtin; refine wl_append _ rfl (.tmp 8) (.tmp 10) 30 rfl 26 _ 1 24 Tryd.underlying30 infoSs rfl (by decide) ro _ n (os.map TL.v) rfl HR1.out (some ⟨w.heap.size, 0, none⟩) 1 1 [Value.slice xA L xc] rfl rfl HNEW.out (by simp [Value.oneCell']) (by unfold maxLen; omega) (by omega) ?_; intro A2 c2 w2 ro2 hrow2 hF2 hnb2; obtain ⟨z0, z1, z2, zf⟩ := (HK1.out.fr hF2 HNE.out).three)
  have hE : Fr (fun k => k = hb ∨ ro = some k ∨ rw = some k) w (w2.setCell ⟨hb, 0, none⟩ (.slice A2 (n + 1) c2)) :=
    ((HF1.out.mono (S' := fun k => k = hb ∨ ro = some k ∨ rw = some k) (fun _ _ q => q.elim)).trans hF2 (fun k _ q => .inr (.inl q))).set (p := ⟨hb, 0, none⟩) (.inl (.inl rfl)) _
  have hF3 : Fr (fun k => k = hb) w2 (w2.setCell ⟨hb, 0, none⟩ (.slice A2 (n + 1) c2)) := (Fr.refl (fun k => k = hb) w2).set (p := ⟨hb, 0, none⟩) (.inl rfl) _
  have hk2 := HK1.out.fr hF2 HNE.out
  have hk3 : Bk (w2.setCell ⟨hb, 0, none⟩ (.slice A2 (n + 1) c2)) hb 32 [.slice A2 (n + 1) c2, .slice Aw n cw, .int .i64 (m : Int)] := hk2.set 0 _
  have hro3 := hrow2.fr hF3 (fun k hk q => by subst q; exact (hrow2.bt hk).ne hk2.bt (by decide) rfl)
  have hrw2 := HW1.out.fr hF2 (fun k hk q => H.out.ne k q hk)
  have hrw3 := hrw2.fr hF3 (fun k hk q => by subst q; exact (hrw2.bt hk).ne hk2.bt (by decide) rfl)
  generalize hw3 : w2.setCell ⟨hb, 0, none⟩ (.slice A2 (n + 1) c2) = w3 at *
  have HE := Lib.hid hE
  have HK3 := Lib.hid hk3
  have HRO3 := Lib.hid hro3
  have HRW3 := Lib.hid hrw3
  have HNB2 := Lib.hid hnb2
  have HX3 := Lib.hid (HX.out.fr hE (fun k hk q => by
    obtain ⟨vo, vw, g1, g2, g3⟩ := H.out.bk
    rcases q with rfl | q | q
    · exact (HX.out.bt hk).ne g1.bt (by decide) rfl
    · exact (HX.out.bt hk).ne (g2.bt q) (by decide) rfl
    · exact (HX.out.bt hk).ne (g3.bt q) (by decide) rfl))
  have HCL := Lib.hid (fun W (hW : Fr No w3 W) (h0 : 0 < L) => TR.cells (Row.tr (D := Any) (HX3.out.fr hW (fun _ _ q => q)) (fun _ _ => trivial)) (by rw [HLL.out]; exact h0))
  obtain ⟨z0, z1, z2, zf⟩ := hk3.three
  clear hw3 hE hk3 hro3 hrw3 hrw2 hk2 hF3 hnb2 hrow2 hF2 hw1 y0 y1 y2 yf HR1 HW1 HK1 HNEW
  go_region_law (first | (refine st_append _ rfl (.const (.slice none 0 0)) (.tmp 19) 26 rfl 9 _ 1 16 Tryd.underlying26 infoStr rfl (by decide) none _ 0 [] rfl (Row.nil _ _ _) xA L xc (xd.map sv) rfl (by rw [List.length_map, HLL.out, Nat.mul_one]) (fun h0 => HCL.out _ ((Fr.refl _ _).drew) h0) (sv_one _) (by unfold maxLen; omega) (by omega) ?_; intro A4 c4 w4 rb4 hr4 hF4 hn4; rw [Nat.zero_add, List.nil_append] at hr4; have hF40 : Fr No w3 w4 := ((Fr.refl No w3).drew).then_ (hF4.mono (fun _ _ q => by cases q)); have hA4 : Fr No w3 (w4.alloc (.cells #[.slice A4 L c4] 26 (0, 0))) := hF40.alloc _; have HA4 := Lib.hid hA4; have HROW4 := Lib.hid (HRW3.out.fr hA4 (fun _ _ q => q)); have HK4 := Lib.hid (HK3.out.fr hA4 id); have HY4 := Lib.hid (hr4.fr ((Fr.refl No w4).alloc (.cells #[.slice A4 L c4] 26 (0, 0))) (fun _ _ q => q)); have HNEW4 := Lib.hid (fun (_ : 0 < 1) => show ∃ ad, some (⟨w4.heap.size, 0, none⟩ : Addr) = some ad ∧ ∀ (j : Nat) (u : Value), [Value.slice A4 L c4][j]? = some u → (w4.alloc (.cells #[.slice A4 L c4] 26 (0, 0))).cell? (ad.add j) = some u from ⟨_, rfl, fun j u hj => by (rw [add0]; exact ((Bk.new w4 26 [Value.slice A4 L c4]).cell j).trans hj)⟩); have HN4 := Lib.hid (show ∀ k, rb4 = some k → w3.heap.size ≤ k from fun k hk => by (rcases hn4 with q | ⟨q', q, hq⟩; (rw [q] at hk; cases hk); (rw [q] at hk; cases hk; exact hq))); obtain ⟨q0, q1, q2, qf⟩ := (HK3.out.fr hF40 id).three; obtain ⟨r0, r1, r2, rf⟩ := (HK3.out.fr hA4 id).three; clear hA4 hr4 hF4 hn4 hF40) | (refine st_append _ rfl (.tmp 18) (.tmp 21) 30 rfl 26 _ 1 24 Tryd.underlying30 infoSs rfl (by decide) rw _ n (ws.map TL.v) rfl HROW4.out (some ⟨w4.heap.size, 0, none⟩) 1 1 [Value.slice A4 L c4] rfl rfl HNEW4.out (by simp [Value.oneCell']) (by unfold maxLen; omega) (by omega) ?_; intro A5 c5 w5 rw5 hrow5 hF5 hnb5; obtain ⟨p0, p1, p2, pf⟩ := (HK4.out.fr hF5 HNW.out).three))
  all_goals
    have hF6 : Fr (fun k => k = hb) w5 (w5.setCell ⟨hb, 1, none⟩ (.slice A5 (n + 1) c5)) := (Fr.refl (fun k => k = hb) w5).set (p := ⟨hb, 1, none⟩) (.inl rfl) _
    have hk5 := HK4.out.fr hF5 HNW.out
    have hk6 : Bk (w5.setCell ⟨hb, 1, none⟩ (.slice A5 (n + 1) c5)) hb 32 [.slice A2 (n + 1) c2, .slice A5 (n + 1) c5, .int .i64 (m : Int)] := hk5.set 1 _
    have hsz1 := HF1.out.size
    have hsz3 := HE.out.size
    have hsz4 := HA4.out.size
    have hrwlt : ∀ k, rw = some k → k < w.heap.size := fun k hk => by
      obtain ⟨vo, vw, g1, g2, g3⟩ := H.out.bk
      exact (g3.bt hk).lt
    have hron : ∀ k, ro2 = some k → B k ∧ rw ≠ some k := fun k hk => by
      rcases HNB2.out with q | ⟨q', q, hq⟩
      · rw [q] at hk
        exact ⟨H.out.ron k hk, H.out.ne k hk⟩
      · rw [q] at hk
        cases hk
        exact ⟨hB _ (by omega), fun e => by have := hrwlt k e; omega⟩
    have hrwn : ∀ k, rw5 = some k → B k ∧ ro2 ≠ some k := fun k hk => by
      rcases hnb5 with q | ⟨q', q, hq⟩
      · rw [q] at hk
        exact ⟨H.out.rwn k hk, fun e => (hron k e).2 hk⟩
      · rw [q] at hk
        cases hk
        exact ⟨hB _ (by omega), fun e => by have := (HRO3.out.bt e).lt; omega⟩
    have hro6 := ((HRO3.out.fr HA4.out (fun _ _ q => q)).fr hF5 (fun k hk q => (hron k hk).2 q))
    have hro6 := hro6.fr hF6 (fun k hk q => by subst q; exact (hro6.bt hk).ne hk5.bt (by decide) rfl)
    have hrw6 := hrow5.fr hF6 (fun k hk q => by subst q; exact (hrow5.bt hk).ne hk5.bt (by decide) rfl)
    have step : ∀ z : TL, LT w3 z → LT (w5.setCell ⟨hb, 1, none⟩ (.slice A5 (n + 1) c5)) z := fun z hz => by
      have z4 : LT (w4.alloc (.cells #[.slice A4 L c4] 26 (0, 0))) z := hz.fr HA4.out (fun _ _ q => q)
      have z5 : LT w5 z := z4.fr hF5 (fun k hk q => (Row.bt z4 hk).ne (HROW4.out.bt q) (by decide) rfl)
      exact z5.fr hF6 (fun k hk q => by subst q; exact (Row.bt z5 hk).ne hk5.bt (by decide) rfl)
    have old : ∀ z ∈ of ++ wf, LT w3 z := fun z hz => (H.out.lr z hz).fr HE.out (fun k hk q => by
      obtain ⟨vo, vw, g1, g2, g3⟩ := H.out.bk
      rcases q with rfl | q | q
      · exact (Row.bt (H.out.lr z hz) hk).ne g1.bt (by decide) rfl
      · exact (Row.bt (H.out.lr z hz) hk).ne (g2.bt q) (by decide) rfl
      · exact (Row.bt (H.out.lr z hz) hk).ne (g3.bt q) (by decide) rfl)
    have hy5 := HY4.out.fr hF5 (fun k hk q => (HY4.out.bt hk).ne (HROW4.out.bt q) (by decide) rfl)
    have hy6 := hy5.fr hF6 (fun k hk q => by subst q; exact (hy5.bt hk).ne hk5.bt (by decide) rfl)
    have hN4 : ∀ k, rb4 = some k → w3.heap.size ≤ k := HN4.out
    have hlt : ∀ z : TL, LT w3 z → ∀ k, z.b = some k → k < w3.heap.size := fun z hz k hk => (Row.bt hz hk).lt
    have hxx : LT w3 ⟨xA, xc, xb, xd⟩ := by
      show Row w3 9 1 xb (.slice xA xd.length xc) xd.length (xd.map sv)
      rw [HLL.out]; exact HX3.out
    have hyy : LT (w5.setCell ⟨hb, 1, none⟩ (.slice A5 (n + 1) c5)) ⟨A4, c4, rb4, xd⟩ := by
      show Row _ 9 1 rb4 (.slice A4 xd.length c4) xd.length (xd.map sv)
      rw [HLL.out]; exact hy6
    have hF0 : Fr (fun k => k = hb ∨ ro = some k ∨ rw = some k) w (w5.setCell ⟨hb, 1, none⟩ (.slice A5 (n + 1) c5)) :=
      ((HE.out.trans HA4.out (fun _ _ q => q.elim)).trans hF5 (fun k _ q => .inr (.inr q))).trans hF6 (fun k _ q => .inl q)
    have hrd : ∀ z ∈ oo ++ wo, TR (Far ((of ++ [⟨xA, xc, xb, xd⟩]) ++ (wf ++ [⟨A4, c4, rb4, xd⟩])) (w5.setCell ⟨hb, 1, none⟩ (.slice A5 (n + 1) c5))) (w5.setCell ⟨hb, 1, none⟩ (.slice A5 (n + 1) c5)) z.A z.d := fun z hz => by
      have r1 := (H.out.rd z hz).more [⟨xA, xc, xb, xd⟩, ⟨A4, c4, rb4, xd⟩] (fun y hy k hk => by
        rcases List.mem_cons.1 hy with rfl | hy
        · exact .inr (HXO.out z hz k hk)
        · rw [List.mem_singleton.1 hy] at hk
          have := hN4 k hk
          exact .inl (by omega))
      have r2 := r1.frT hF0 (fun k q hbt => by
        obtain ⟨vo, vw, g1, g2, g3⟩ := H.out.bk
        exfalso
        rcases q with rfl | q | q
        · exact hbt.ne g1.bt (by decide) rfl
        · exact hbt.ne (g2.bt q) (by decide) rfl
        · exact hbt.ne (g3.bt q) (by decide) rfl)
      refine r2.mem (fun y hy => ?_)
      simp only [List.mem_append, List.mem_cons, List.mem_singleton, List.not_mem_nil, or_false] at hy ⊢
      rcases hy with (hy | hy) | (hy | hy)
      · exact .inl (.inl hy)
      · exact .inr (.inl hy)
      · exact .inl (.inr hy)
      · exact .inr (.inr hy)
    go_end0
    refine ⟨rfl, ro2, rw5, ⟨A4, c4, rb4, xd⟩, ⟨⟨_, _, hk6, ?_, ?_⟩, H.out.lo, H.out.lw, H.out.eo, ?_, hrd, fun z hz => ?_, ap_more H.out.ap HXA.out (fun z hz k hk e => ?_) (fun k hk e => ?_), fun k hk => (fun e => (hrwn k e).2 hk), H.out.hbn, fun k hk => (hron k hk).1, fun k hk => (hrwn k hk).1, fun z hz k hk => ?_, H.out.ob⟩, rfl, fun k hk => by have := hN4 k hk; omega, hF0⟩
    · rw [← List.append_assoc, HOS.out, List.length_append, HNN.out, List.map_append]
      show Row _ _ _ _ _ (n + 1) (os.map TL.v ++ [.slice xA xd.length xc])
      rw [HLL.out]; exact hro6
    · rw [← List.append_assoc, HWS.out, List.length_append, HWN.out, List.map_append]
      show Row _ _ _ _ _ (n + 1) (ws.map TL.v ++ [.slice A4 xd.length c4])
      rw [HLL.out]; exact hrw6
    · rw [List.map_append, List.map_append, H.out.ef]; rfl
    · rcases List.mem_append.1 hz with hz | hz
      · rcases List.mem_append.1 hz with hz | hz
        · exact step z (old z (List.mem_append_left _ hz))
        · rw [List.mem_singleton.1 hz]; exact step _ hxx
      · rcases List.mem_append.1 hz with hz | hz
        · exact step z (old z (List.mem_append_right _ hz))
        · rw [List.mem_singleton.1 hz]; exact hyy
    · have h1 := hN4 k hk
      have h2 := hlt z (old z hz) k e
      omega
    · have h1 := hN4 k e
      have h2 := hlt _ hxx k hk
      omega
    · rcases List.mem_append.1 hz with hz | hz
      · rcases List.mem_append.1 hz with hz | hz
        · exact H.out.xn z (List.mem_append_left _ hz) k hk
        · rw [List.mem_singleton.1 hz] at hk; exact hxb k hk
      · rcases List.mem_append.1 hz with hz | hz
        · exact H.out.xn z (List.mem_append_right _ hz) k hk
        · rw [List.mem_singleton.1 hz] at hk
          have h1 := hN4 k hk
          exact hB k (by omega)
end Go.Proofs.YtdhlbdllidfenaaDoor.Wd
