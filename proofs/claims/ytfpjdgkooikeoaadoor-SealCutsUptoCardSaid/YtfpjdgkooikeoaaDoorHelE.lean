/- Lists that were handed out: how they lie; one more is laid by. Conditions: none. -/
import Derived.Test.YtfpjdgkooikeoaaDoorHelD
import Derived.Test.YtfpjdgkooikeoaaDoorHelA
namespace Go.Proofs.YtfpjdgkooikeoaaDoor.Sl
open Go.RowKit Go.Proofs.YtfpjdgkooikeoaaDoor.Mem
set_option linter.unusedVariables false
set_option linter.unusedSimpArgs false
structure HL where (A : Option Addr) (c : Nat) (b : Option Nat) (d : List UInt8)
def HL.v (x : HL) : Value := .slice x.A x.d.length x.c
def LR (w : World) (x : HL) : Prop := Row w 5 1 x.b x.v x.d.length (bv x.d)
structure Held (B : Nat) (w : World) (hb : Nat) (ro rw : Option Nat) (os ws : List HL) : Prop where
  bk : ∃ vo vw, Bk w hb 56 [vo, vw] ∧ Row w 22 1 ro vo os.length (os.map HL.v) ∧ Row w 22 1 rw vw ws.length (ws.map HL.v)
  eq : os.map HL.d = ws.map HL.d
  lr : ∀ x ∈ os ++ ws, LR w x
  ap : (os ++ ws).Pairwise (fun x y => ∀ k, x.b = some k → y.b ≠ some k)
  ne : ∀ k, ro = some k → rw ≠ some k
  hbn : B ≤ hb
  ron : ∀ k, ro = some k → B ≤ k
  rwn : ∀ k, rw = some k → B ≤ k
  xn : ∀ x ∈ os ++ ws, ∀ k, x.b = some k → B ≤ k
theorem LR.fr {S : Nat → Prop} {w w1 : World} {x : HL} (h : LR w x) (hf : Fr S w w1) (hn : ∀ k, x.b = some k → ¬ S k) : LR w1 x := Row.fr h hf hn
theorem Held.fr {S : Nat → Prop} {B : Nat} {w w1 : World} {hb : Nat} {ro rw : Option Nat} {os ws : List HL} (h : Held B w hb ro rw os ws) (hf : Fr S w w1) (hs : ∀ k, S k → k < B) : Held B w1 hb ro rw os ws := by
  obtain ⟨vo, vw, h1, h2, h3⟩ := h.bk
  refine ⟨⟨vo, vw, h1.fr hf (fun q => ?_), h2.fr hf (fun k hk q => ?_), h3.fr hf (fun k hk q => ?_)⟩, h.eq, fun x hx => (h.lr x hx).fr hf (fun k hk q => ?_), h.ap, h.ne, h.hbn, h.ron, h.rwn, h.xn⟩
  · have := hs _ q; have := h.hbn; omega
  · have := hs _ q; have := h.ron k hk; omega
  · have := hs _ q; have := h.rwn k hk; omega
  · have := hs _ q; have := h.xn x hx k hk; omega
theorem infoBys : (Tryd.prog.info? 22).map (fun i => (i.zero, i.size, i.bytes)) = some (some (.slice none 0 0), 1, 24) := by kernel_rfl
def Ap (x y : HL) : Prop := ∀ k, x.b = some k → y.b ≠ some k
theorem Ap.symm {x y : HL} (h : Ap x y) : Ap y x := fun k hy hx => h k hx hy
theorem ap_more {os ws : List HL} {x y : HL} (h : (os ++ ws).Pairwise (fun x y => ∀ k, x.b = some k → y.b ≠ some k)) (hx : ∀ z ∈ os ++ ws, Ap x z) (hy : ∀ z ∈ os ++ ws, Ap y z) (hxy : Ap x y) : ((os ++ [x]) ++ (ws ++ [y])).Pairwise (fun x y => ∀ k, x.b = some k → y.b ≠ some k) := by
  obtain ⟨h1, h2, h3⟩ := List.pairwise_append.1 h
  refine List.pairwise_append.2 ⟨List.pairwise_append.2 ⟨h1, List.pairwise_singleton .., fun a ha b hb => ?_⟩, List.pairwise_append.2 ⟨h2, List.pairwise_singleton .., fun a ha b hb => ?_⟩, fun a ha b hb => ?_⟩
  · rw [List.mem_singleton.1 hb]; exact (hx a (List.mem_append_left _ ha)).symm
  · rw [List.mem_singleton.1 hb]; exact (hy a (List.mem_append_right _ ha)).symm
  · rcases List.mem_append.1 ha with ha | ha
    · rcases List.mem_append.1 hb with hb | hb
      · exact h3 a ha b hb
      · rw [List.mem_singleton.1 hb]; exact (hy a (List.mem_append_left _ ha)).symm
    · rw [List.mem_singleton.1 ha]
      rcases List.mem_append.1 hb with hb | hb
      · exact hx b (List.mem_append_right _ hb)
      · rw [List.mem_singleton.1 hb]; exact hxy
set_option maxHeartbeats 4000000 in
set_option maxRecDepth 100000 in
theorem keep (B : Nat) (w : World) (hb : Nat) (ro rw : Option Nat) (os ws : List HL) (h : Held B w hb ro rw os ws) (hB : B ≤ w.heap.size) (x : HL) (hx : LR w x) (hxb : ∀ k, x.b = some k → B ≤ k) (hxa : ∀ y ∈ os ++ ws, ∀ k, x.b = some k → y.b ≠ some k) (hn : os.length ≤ 1000000) (hd : x.d.length ≤ 140737488355328) :
    Calls Tryd.prog 30 #[.pointer (some ⟨hb, 0, none⟩), x.v] w fun e w' => e = .returned (.tuple #[]) ∧ ∃ ro' rw' y, Held B w' hb ro' rw' (os ++ [x]) (ws ++ [y]) ∧ y.d = x.d ∧ (∀ k, y.b = some k → w.heap.size ≤ k) ∧ Fr (fun k => k = hb ∨ ro = some k ∨ rw = some k) w w' := by
  have H := Lib.hid h
  have HX := Lib.hid hx
  obtain ⟨vo, vw, h1, h2, h3⟩ := h.bk
  obtain ⟨xA, xc, xb, xd⟩ := x
  unfold LR at HX
  unfold HL.v at HX ⊢
  dsimp only at *
  obtain ⟨Ao, co, rfl, _⟩ := h2.val
  obtain ⟨Aw, cw, rfl, _⟩ := h3.val
  obtain ⟨n, hnn⟩ : ∃ n, os.length = n := ⟨_, rfl⟩
  have hwn : ws.length = n := by have := congrArg List.length h.eq; simpa [hnn] using this.symm
  rw [hnn] at h1 h2 hn
  rw [hwn] at h1 h3
  have HNN := Lib.hid hnn
  have HWN := Lib.hid hwn
  obtain ⟨y0, y1, yf⟩ := h1.two
  obtain ⟨w1, hw1⟩ : ∃ w1, w.alloc (.cells #[.slice xA xd.length xc] 22 (0, 0)) = w1 := ⟨_, rfl⟩
  have hF1 : Fr No w w1 := by rw [← hw1]; exact (Fr.refl _ _).alloc _
  have HNEW := Lib.hid (fun (_ : 0 < 1) => show ∃ ad, some (⟨w.heap.size, 0, none⟩ : Addr) = some ad ∧ ∀ (j : Nat) (u : Value), [Value.slice xA xd.length xc][j]? = some u → w1.cell? (ad.add j) = some u from
    ⟨_, rfl, fun j u hj => by rw [add0, ← hw1]; exact ((Bk.new w 22 [Value.slice xA xd.length xc]).cell j).trans hj⟩)
  have HR1 := Lib.hid (h2.fr hF1 (fun _ _ q => q))
  have HW1 := Lib.hid (h3.fr hF1 (fun _ _ q => q))
  have HK1 := Lib.hid (h1.fr hF1 id)
  have hne : ¬ (ro = some hb) := fun q => (h2.bt q).ne h1.bt (by decide) rfl
  have HNE := Lib.hid hne
  have HNW := Lib.hid (show ¬ (rw = some hb) from fun q => (h3.bt q).ne h1.bt (by decide) rfl)
  have HF1 := Lib.hid hF1
  clear h h1 h2 h3 hx hF1 hne
  go_enter Tryd.func30, Tryd.ntmps30
  go_wp2_with (at_builtin; refine wl_append _ rfl (.tmp 8) (.tmp 10) 45 rfl 22 _ 1 24 Tryd.underlying45 infoBys rfl (by decide) ro _ n (os.map HL.v) rfl HR1.out (some ⟨w.heap.size, 0, none⟩) 1 1 [Value.slice xA xd.length xc] rfl rfl HNEW.out (by simp [Value.oneCell']) (by unfold maxLen; omega) (by omega) ?_; intro A2 c2 w2 ro2 hrow2 hF2 hnb2; obtain ⟨z0, z1, zf⟩ := (HK1.out.fr hF2 HNE.out).two)
  have hE : Fr (fun k => k = hb ∨ ro = some k ∨ rw = some k) w (w2.setCell ⟨hb, 0, none⟩ (.slice A2 (n + 1) c2)) :=
    ((HF1.out.mono (S' := fun k => k = hb ∨ ro = some k ∨ rw = some k) (fun _ _ q => q.elim)).trans hF2 (fun k _ q => .inr (.inl q))).set (p := ⟨hb, 0, none⟩) (.inl (.inl rfl)) _
  have hF3 : Fr (fun k => k = hb) w2 (w2.setCell ⟨hb, 0, none⟩ (.slice A2 (n + 1) c2)) := (Fr.refl (fun k => k = hb) w2).set (p := ⟨hb, 0, none⟩) (.inl rfl) _
  have hk2 := HK1.out.fr hF2 HNE.out
  have hk3 : Bk (w2.setCell ⟨hb, 0, none⟩ (.slice A2 (n + 1) c2)) hb 56 [.slice A2 (n + 1) c2, .slice Aw n cw] := hk2.set 0 _
  have hro3 := hrow2.fr hF3 (fun k hk q => by subst q; exact (hrow2.bt hk).ne hk2.bt (by decide) rfl)
  have hrw2 := HW1.out.fr hF2 (fun k hk q => H.out.ne k q hk)
  have hrw3 := hrw2.fr hF3 (fun k hk q => by subst q; exact (hrw2.bt hk).ne hk2.bt (by decide) rfl)
  generalize hw3 : w2.setCell ⟨hb, 0, none⟩ (.slice A2 (n + 1) c2) = w3 at *
  have HE := Lib.hid hE
  have HK3 := Lib.hid hk3
  have HRO3 := Lib.hid hro3
  have HRW3 := Lib.hid hrw3
  have HNB2 := Lib.hid hnb2
  have HX3 := Lib.hid (HX.out.fr hE (fun k hk q => by
    obtain ⟨vo, vw, g1, g2, g3⟩ := H.out.bk
    rcases q with rfl | q | q
    · exact (HX.out.bt hk).ne g1.bt (by decide) rfl
    · exact (HX.out.bt hk).ne (g2.bt q) (by decide) rfl
    · exact (HX.out.bt hk).ne (g3.bt q) (by decide) rfl))
  have HCO := Lib.hid (fun W (hW : Fr No w3 W) => copiedL xA xd.length xc xd W rfl hd (Row.br (D := Any) (HX3.out.fr hW (fun _ _ q => q)) (fun _ _ => trivial)))
  obtain ⟨z0, z1, zf⟩ := hk3.two
  clear hw3 hE hk3 hro3 hrw3 hrw2 hk2 hF3 hnb2 hrow2 hF2 hw1 y0 y1 yf HR1 HW1 HK1 HNEW
  go_region_law (first | (go_simp; go_at_call 20; refine (HCO.out _ ((Fr.refl _ _).drew)).mono ?_; rintro e w4 ⟨A4, c4, rb4, rfl, hr4, hF4, hn4⟩; have hA4 : Fr No w3 (w4.alloc (.cells #[.slice A4 xd.length c4] 22 (0, 0))) := (((Fr.refl No w3).drew).then_ hF4).alloc _; have HA4 := Lib.hid hA4; have HROW4 := Lib.hid (HRW3.out.fr hA4 (fun _ _ q => q)); have HK4 := Lib.hid (HK3.out.fr hA4 id); have HY4 := Lib.hid (hr4.fr ((Fr.refl No w4).alloc (.cells #[.slice A4 xd.length c4] 22 (0, 0))) (fun _ _ q => q)); have HNEW4 := Lib.hid (fun (_ : 0 < 1) => show ∃ ad, some (⟨w4.heap.size, 0, none⟩ : Addr) = some ad ∧ ∀ (j : Nat) (u : Value), [Value.slice A4 xd.length c4][j]? = some u → (w4.alloc (.cells #[.slice A4 xd.length c4] 22 (0, 0))).cell? (ad.add j) = some u from ⟨_, rfl, fun j u hj => by rw [add0]; exact ((Bk.new w4 22 [Value.slice A4 xd.length c4]).cell j).trans hj⟩); have HN4 := Lib.hid hn4; obtain ⟨q0, q1, qf⟩ := (HK3.out.fr (((Fr.refl No w3).drew).then_ hF4) id).two; obtain ⟨r0, r1, rf⟩ := (HK3.out.fr hA4 id).two; clear hA4 hr4 hF4 hn4) | (refine st_append _ rfl (.tmp 18) (.tmp 21) 45 rfl 22 _ 1 24 Tryd.underlying45 infoBys rfl (by decide) rw _ n (ws.map HL.v) rfl HROW4.out (some ⟨w4.heap.size, 0, none⟩) 1 1 [Value.slice A4 xd.length c4] rfl rfl HNEW4.out (by simp [Value.oneCell']) (by unfold maxLen; omega) (by omega) ?_; intro A5 c5 w5 rw5 hrow5 hF5 hnb5; obtain ⟨p0, p1, pf⟩ := (HK4.out.fr hF5 HNW.out).two))
  all_goals
    have hF6 : Fr (fun k => k = hb) w5 (w5.setCell ⟨hb, 1, none⟩ (.slice A5 (n + 1) c5)) := (Fr.refl (fun k => k = hb) w5).set (p := ⟨hb, 1, none⟩) (.inl rfl) _
    have hk5 := HK4.out.fr hF5 HNW.out
    have hk6 : Bk (w5.setCell ⟨hb, 1, none⟩ (.slice A5 (n + 1) c5)) hb 56 [.slice A2 (n + 1) c2, .slice A5 (n + 1) c5] := hk5.set 1 _
    have hsz1 := HF1.out.size
    have hsz3 := HE.out.size
    have hsz4 := HA4.out.size
    have hrwlt : ∀ k, rw = some k → k < w.heap.size := fun k hk => by
      obtain ⟨vo, vw, g1, g2, g3⟩ := H.out.bk
      exact (g3.bt hk).lt
    have hron : ∀ k, ro2 = some k → B ≤ k ∧ rw ≠ some k := fun k hk => by
      rcases HNB2.out with q | ⟨q', q, hq⟩
      · rw [q] at hk
        exact ⟨H.out.ron k hk, H.out.ne k hk⟩
      · rw [q] at hk
        cases hk
        exact ⟨by omega, fun e => by have := hrwlt k e; omega⟩
    have hrwn : ∀ k, rw5 = some k → B ≤ k ∧ ro2 ≠ some k := fun k hk => by
      rcases hnb5 with q | ⟨q', q, hq⟩
      · rw [q] at hk
        exact ⟨H.out.rwn k hk, fun e => (hron k e).2 hk⟩
      · rw [q] at hk
        cases hk
        exact ⟨by omega, fun e => by have := (HRO3.out.bt e).lt; omega⟩
    have hro6 := ((HRO3.out.fr HA4.out (fun _ _ q => q)).fr hF5 (fun k hk q => (hron k hk).2 q))
    have hro6 := hro6.fr hF6 (fun k hk q => by subst q; exact (hro6.bt hk).ne hk5.bt (by decide) rfl)
    have hrw6 := hrow5.fr hF6 (fun k hk q => by subst q; exact (hrow5.bt hk).ne hk5.bt (by decide) rfl)
    have step : ∀ z : HL, LR w3 z → LR (w5.setCell ⟨hb, 1, none⟩ (.slice A5 (n + 1) c5)) z := fun z hz => by
      have z4 : LR (w4.alloc (.cells #[.slice A4 xd.length c4] 22 (0, 0))) z := hz.fr HA4.out (fun _ _ q => q)
      have z5 : LR w5 z := z4.fr hF5 (fun k hk q => (Row.bt z4 hk).ne (HROW4.out.bt q) (by decide) rfl)
      exact z5.fr hF6 (fun k hk q => by subst q; exact (Row.bt z5 hk).ne hk5.bt (by decide) rfl)
    have old : ∀ z ∈ os ++ ws, LR w3 z := fun z hz => (H.out.lr z hz).fr HE.out (fun k hk q => by
      obtain ⟨vo, vw, g1, g2, g3⟩ := H.out.bk
      rcases q with rfl | q | q
      · exact (Row.bt (H.out.lr z hz) hk).ne g1.bt (by decide) rfl
      · exact (Row.bt (H.out.lr z hz) hk).ne (g2.bt q) (by decide) rfl
      · exact (Row.bt (H.out.lr z hz) hk).ne (g3.bt q) (by decide) rfl)
    have hy5 := HY4.out.fr hF5 (fun k hk q => (HY4.out.bt hk).ne (HROW4.out.bt q) (by decide) rfl)
    have hy6 := hy5.fr hF6 (fun k hk q => by subst q; exact (hy5.bt hk).ne hk5.bt (by decide) rfl)
    have hN4 : ∀ k, rb4 = some k → w3.heap.size ≤ k := HN4.out
    have hlt : ∀ z : HL, LR w3 z → ∀ k, z.b = some k → k < w3.heap.size := fun z hz k hk => (Row.bt hz hk).lt
    have hxx : LR w3 ⟨xA, xc, xb, xd⟩ := HX3.out
    have hF0 : Fr (fun k => k = hb ∨ ro = some k ∨ rw = some k) w (w5.setCell ⟨hb, 1, none⟩ (.slice A5 (n + 1) c5)) :=
      ((HE.out.trans HA4.out (fun _ _ q => q.elim)).trans hF5 (fun k _ q => .inr (.inr q))).trans hF6 (fun k _ q => .inl q)
    go_end0
    refine ⟨rfl, ro2, rw5, ⟨A4, c4, rb4, xd⟩, ⟨⟨_, _, hk6, ?_, ?_⟩, ?_, fun z hz => ?_, ap_more H.out.ap hxa (fun z hz k hk e => ?_) (fun k hk e => ?_), fun k hk => (fun e => (hrwn k e).2 hk), H.out.hbn, fun k hk => (hron k hk).1, fun k hk => (hrwn k hk).1, fun z hz k hk => ?_⟩, rfl, fun k hk => by have := hN4 k hk; omega, hF0⟩
    · rw [List.length_append, HNN.out, List.map_append]; exact hro6
    · rw [List.length_append, HWN.out, List.map_append]; exact hrw6
    · rw [List.map_append, List.map_append, H.out.eq]; rfl
    · rcases List.mem_append.1 hz with hz | hz
      · rcases List.mem_append.1 hz with hz | hz
        · exact step z (old z (List.mem_append_left _ hz))
        · rw [List.mem_singleton.1 hz]; exact step _ hxx
      · rcases List.mem_append.1 hz with hz | hz
        · exact step z (old z (List.mem_append_right _ hz))
        · rw [List.mem_singleton.1 hz]; exact hy6
    · have h1 := hN4 k hk
      have h2 := hlt z (old z hz) k e
      omega
    · have h1 := hN4 k e
      have h2 := hlt _ hxx k hk
      omega
    · rcases List.mem_append.1 hz with hz | hz
      · rcases List.mem_append.1 hz with hz | hz
        · exact H.out.xn z (List.mem_append_left _ hz) k hk
        · rw [List.mem_singleton.1 hz] at hk; exact hxb k hk
      · rcases List.mem_append.1 hz with hz | hz
        · exact H.out.xn z (List.mem_append_right _ hz) k hk
        · rw [List.mem_singleton.1 hz] at hk
          have h1 := hN4 k hk
          omega
end Go.Proofs.YtfpjdgkooikeoaaDoor.Sl
