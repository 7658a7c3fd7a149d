/- Words: the book: its owner writes into every list that is new, and lets them grow. Conditions: none. -/
import Derived.Test.YtdhlbdllidfenaaDoorBkG
namespace Go.Proofs.YtdhlbdllidfenaaDoor.Wd
open Go.RowKit Go.Proofs.YtdhlbdllidfenaaDoor.Mem
set_option linter.unusedVariables false
set_option linter.unusedSimpArgs false
theorem Row.slot {w : World} {rb : Option Nat} {A : Option Addr} {n c : Nat} {xs : List TL} (h : Row w 26 1 rb (.slice A n c) n (xs.map TL.v)) {i : Nat} (hi : i < xs.length) (hn : xs.length = n) : ∃ g, rb = some g ∧ A = some ⟨g, 0, none⟩ ∧ w.cell? ⟨g, i, none⟩ = some xs[i].v := by
  obtain ⟨g, c', hg, hv, _, hc, _⟩ := h.at_ (by omega)
  injection hv with e1 _ _
  exact ⟨g, hg, e1, hc i _ (by rw [List.getElem?_map, List.getElem?_eq_getElem hi]; rfl)⟩
theorem LT.slot {w : World} {x : TL} (h : LT w x) {k : Nat} (hk : k < x.d.length) : ∃ g, x.b = some g ∧ x.v = .slice (some ⟨g, 0, none⟩) x.d.length x.c ∧ w.cell? ⟨g, k, none⟩ = some (sv x.d[k]) ∧ ∀ j, w.frozen? ⟨g, j, none⟩ = false := by
  obtain ⟨g, c', hg, hv, _, hc, hf⟩ := Row.at_ h (by omega)
  have hv2 : x.v = .slice x.A x.d.length x.c := rfl
  rw [hv2] at hv
  injection hv with e1 _ e3
  refine ⟨g, hg, by rw [hv2, e1], hc k _ (by rw [List.getElem?_map, List.getElem?_eq_getElem hk]; rfl), hf⟩
theorem keepC {S : Nat → Prop} {W W' : World} {a : Addr} {v : Value} (h : Fr S W W') (hc : W.cell? a = some v) (hn : ¬ S a.block) : W'.cell? a = some v := by
  have := h.block a.block (cell_lt hc) hn
  rw [← hc]
  unfold World.cell?
  rw [this]
theorem keepZ {S : Nat → Prop} {W W' : World} {a : Addr} {v : Value} (h : Fr S W W') (hc : W.cell? a = some v) (hn : ¬ S a.block) (hz : W.frozen? a = false) : W'.frozen? a = false := by
  have := h.block a.block (cell_lt hc) hn
  rw [← hz]
  unfold World.frozen?
  rw [this]
def lenD (x : TL) : Nat := x.d.length
theorem shape_len {a b : List TL} (h : a.map lenD = b.map lenD) : a.length = b.length := by
  have := congrArg List.length h
  simpa using this
theorem shape_at {a b : List TL} (h : a.map lenD = b.map lenD) {t : Nat} (ha : t < a.length) (hb : t < b.length) : a[t].d.length = b[t].d.length := by
  have z : (a.map lenD)[t]? = (b.map lenD)[t]? := by rw [h]
  rw [List.getElem?_map, List.getElem?_map, List.getElem?_eq_getElem ha, List.getElem?_eq_getElem hb] at z
  exact Option.some.inj z
theorem shape_mark {a : List TL} {t k : Nat} (ht : t < a.length) (u : List UInt8) : (a.set t (mkd a[t] k u)).map lenD = a.map lenD := by
  apply List.ext_getElem
  · simp
  · intro i h1 h2
    rw [List.getElem_map, List.getElem_map, List.getElem_set]
    split
    · rename_i e
      subst e
      show (a[t].d.set k u).length = _
      rw [List.length_set]; rfl
    · rfl
theorem Bok.view {B : Nat → Prop} {w : World} {hb m : Nat} {ro rw : Option Nat} {oo wo of wf : List TL} (h : Bok B w hb ro rw m oo wo of wf) {T t i : Nat} (ht : t < of.length) (ht' : t < wf.length) (hi : m + t = i) (hT : (oo ++ of).length = T) (hT' : (wo ++ wf).length = T) : ∃ go gw co cw, (w.cell? ⟨hb, 0, none⟩ = some (.slice (some ⟨go, 0, none⟩) T co) ∧ w.cell? ⟨hb, 1, none⟩ = some (.slice (some ⟨gw, 0, none⟩) T cw)) ∧ w.cell? ⟨go, i, none⟩ = some of[t].v ∧ w.cell? ⟨gw, i, none⟩ = some wf[t].v ∧ BT w go 26 ∧ BT w gw 26 := by
  obtain ⟨vo, vw, h1, h2, h3⟩ := h.bk
  obtain ⟨Ao, co, rfl, _⟩ := h2.val
  obtain ⟨Aw, cw, rfl, _⟩ := h3.val
  obtain ⟨y0, y1, y2, yf⟩ := h1.three
  obtain ⟨go, hgo, rfl, c1⟩ := Row.slot h2 (i := i) (by rw [List.length_append, h.lo]; omega) rfl
  obtain ⟨gw, hgw, rfl, c2⟩ := Row.slot h3 (i := i) (by rw [List.length_append, h.lw]; omega) rfl
  rw [hT] at y0
  rw [hT'] at y1
  refine ⟨go, gw, co, cw, ⟨y0, y1⟩, ?_, ?_, h2.bt hgo, h3.bt hgw⟩
  · rw [c1, List.getElem_append_right (by rw [h.lo]; omega)]
    congr 3
    rw [h.lo]; omega
  · rw [c2, List.getElem_append_right (by rw [h.lw]; omega)]
    congr 3
    rw [h.lw]; omega
theorem Grw.view {B : Nat → Prop} {w : World} {hb m : Nat} {ro rw : Option Nat} {os ws fs : List TL} (h : Grw B w hb ro rw m os ws fs) {j no nw : Nat} {x y : TL} (hx : os[j]? = some x) (hy : ws[j]? = some y) (ho : os.length = no) (hw : ws.length = nw) : ∃ go gw co cw, (w.cell? ⟨hb, 0, none⟩ = some (.slice (some ⟨go, 0, none⟩) no co) ∧ w.cell? ⟨hb, 1, none⟩ = some (.slice (some ⟨gw, 0, none⟩) nw cw)) ∧ w.cell? ⟨go, j, none⟩ = some x.v ∧ w.cell? ⟨gw, j, none⟩ = some y.v := by
  obtain ⟨vo, vw, h1, h2, h3⟩ := h.bk
  obtain ⟨Ao, co, rfl, _⟩ := h2.val
  obtain ⟨Aw, cw, rfl, _⟩ := h3.val
  obtain ⟨y0, y1, y2, yf⟩ := h1.three
  obtain ⟨i1, e1⟩ := List.getElem?_eq_some_iff.1 hx
  obtain ⟨i2, e2⟩ := List.getElem?_eq_some_iff.1 hy
  obtain ⟨go, hgo, rfl, c1⟩ := Row.slot h2 (i := j) i1 rfl
  obtain ⟨gw, hgw, rfl, c2⟩ := Row.slot h3 (i := j) i2 rfl
  rw [ho] at y0
  rw [hw] at y1
  exact ⟨go, gw, co, cw, ⟨y0, y1⟩, by rw [c1, e1], by rw [c2, e2]⟩
theorem part_at {oo of nl os : List TL} {m t j : Nat} (h : os = (oo ++ of) ++ nl) (hm : oo.length = m) (hj : m + t = j) (ht : t < of.length) : os[j]? = some of[t] := by
  subst h
  rw [List.getElem?_append_left (by rw [List.length_append]; omega), List.getElem?_append_right (by omega), ← hj, hm, Nat.add_sub_cancel_left, List.getElem?_eq_getElem ht]
theorem newText (w : World) (u : List UInt8) : TR Any (w.alloc (.cells #[sv u] 9 (0, 0))) (some ⟨w.heap.size, 0, none⟩) [u] := fun j x hj => ⟨_, rfl, trivial, by
  rw [add0]
  refine ((Bk.new w 9 [sv u]).cell j).trans ?_
  match j, hj with
  | 0, hj => simp at hj; subst hj; rfl
  | j + 1, hj => simp at hj⟩
set_option maxHeartbeats 8000000 in
set_option maxRecDepth 100000 in
theorem bwrite (B : Nat → Prop) (w : World) (hb : Nat) (ro rw : Option Nat) (m : Nat) (oo wo of wf : List TL) (h : Bok B w hb ro rw m oo wo of wf) (hB : ∀ k, w.heap.size ≤ k → B k) (hs1 : (oo ++ of).length ≤ 400000) (hs2 : ∀ x ∈ oo, x.d.length ≤ 10000) (hs3 : ∀ x ∈ of, x.d.length ≤ 8192) :
    Calls Tryd.prog 13 #[.pointer (some ⟨hb, 0, none⟩)] w fun e w' => e = .returned (.bool true) ∧ ∃ ro' rw' m' oo' wo', Bok B w' hb ro' rw' m' oo' wo' [] [] ∧ oo'.length ≤ 2 * (oo ++ of).length ∧ (∀ x ∈ oo', x.d.length ≤ 10000) ∧ Fr (fun k => B k) w w' := by
  have HHO := Lib.hid (bholds B w hb ro rw m oo wo of wf h (by omega) (fun x hx => by
    rcases List.mem_append.1 hx with hx | hx
    · have := hs2 x hx; omega
    · have := hs3 x hx; omega))
  obtain ⟨T, hT⟩ : ∃ T, (oo ++ of).length = T := ⟨_, rfl⟩
  obtain ⟨nf, hnf⟩ : ∃ nf, of.length = nf := ⟨_, rfl⟩
  have hTm : T = m + nf := by rw [← hT, ← hnf, List.length_append, h.lo]
  have hwf : wf.length = nf := by
    have := congrArg List.length h.ef
    rw [List.length_map, List.length_map] at this
    omega
  have H := Lib.hid h
  have HBW := Lib.hid hB
  have HT := Lib.hid hT
  have HNF := Lib.hid hnf
  have HS2 := Lib.hid hs2
  have HS3 := Lib.hid hs3
  rw [hT] at hs1 ⊢
  have hmT : m ≤ T := by omega
  have HTM := Lib.hid hTm
  have HWF := Lib.hid hwf
  clear h hT hnf hwf hs2 hs3 hTm
  go_enter Tryd.func13, Tryd.ntmps13
  go_wp2_with fail
  refine HHO.out.mono ?_
  rintro e w1 ⟨rfl, hF1⟩
  have H1 := Lib.hid (H.out.no hF1)
  have HF1 := Lib.hid (show Fr (fun k => B k) w w1 from hF1.mono (fun _ _ q => q.elim))
  clear hF1 HHO
  obtain ⟨vo, vw, h1, h2, h3⟩ := H1.out.bk
  obtain ⟨Ao, co, rfl, _⟩ := h2.val
  rw [HT.out] at h1
  obtain ⟨y0, y1, y2, yf⟩ := h1.three
  clear h1 h2 h3
  go_wp2
  go_quiet (fail)
  clear y0 y1 y2 yf
  go_wp2
  go_loopw [6] (fun v wr => ∃ (i : Nat) (of' wf' : List TL), v = .int .i64 (i : Int) ∧ m ≤ i ∧ i ≤ T ∧ Hid (of'.map lenD = of.map lenD) ∧ Hid (Bok B wr hb ro rw m oo wo of' wf') ∧ Hid (Fr (fun k => B k) w wr)) (fun v _ => T - (intOf v).toNat)
  case atStart => exact ⟨m, of, wf, rfl, Nat.le_refl _, hmT, rfl, H1.out.no ((Fr.refl No _).drewN _), HF1.out.drewN _⟩
  case round =>
    clear HF1 H1
    obtain ⟨i, of', wf', rfl, hmi, hiT, HSH, HBK, HF⟩ := hrel
    have hwi : IntKind.i64.wrap ((i : Int) + 1) = (i : Int) + 1 := IntWalk.i64_in _ (by omega)
    by_cases hlt : i < T
    · have d1 : decide ((i : Int) < (T : Int)) = true := decide_eq_true (by omega)
      have d1' : decide (i < T) = true := decide_eq_true hlt
      have hii : (i : Int) < (T : Int) := by omega
      obtain ⟨t, ht⟩ : ∃ t, m + t = i := ⟨i - m, by omega⟩
      have hlo : of'.length = nf := by rw [shape_len HSH.out, HNF.out]
      have htf : t < of'.length := by have := HTM.out; omega
      have hlw : wf'.length = nf := by
        have := congrArg List.length HBK.out.ef
        rw [List.length_map, List.length_map] at this
        omega
      have htw : t < wf'.length := by omega
      have hTT : (oo ++ of').length = T := by rw [List.length_append, HBK.out.lo, hlo]; exact HTM.out.symm
      have hTW : (wo ++ wf').length = T := by rw [List.length_append, HBK.out.lw, hlw]; exact HTM.out.symm
      obtain ⟨go, gw, co', cw', ⟨y0, y1⟩, x0, x1, _, _⟩ := HBK.out.view htf htw ht hTT hTW
      obtain ⟨L, hL⟩ : ∃ L, of'[t].d.length = L := ⟨_, rfl⟩
      have HLL := Lib.hid (show ∀ of'' : List TL, of''.map lenD = of.map lenD → ∃ h : t < of''.length, of''[t].d.length = L from fun of'' hs => by
        have e : of''.map lenD = of'.map lenD := by rw [hs, HSH.out]
        have h : t < of''.length := by rw [shape_len e]; exact htf
        exact ⟨h, by rw [shape_at e h htf, hL]⟩)
      have hL8 : L ≤ 8192 := by
        have h' : t < of.length := by rw [← shape_len HSH.out]; exact htf
        have := HS3.out of[t] (List.getElem_mem h')
        rw [← hL, shape_at HSH.out htf h']; exact this
      have hxv : of'[t].v = .slice of'[t].A L of'[t].c := by rw [← hL]; rfl
      rw [hxv] at x0
      have HM := Lib.hid (fun W => wMark i (by omega) W)
      have HTI := Lib.hid ht
      clear x1
      clear hxv hL htw hlo hlw hTT hTW ht
      go_wp2
      go_loopw [36] (fun v wq => ∃ (k : Nat) (of'' wf'' : List TL), v = .int .i64 (k : Int) ∧ k ≤ L ∧ Hid (of''.map lenD = of.map lenD) ∧ Hid (Bok B wq hb ro rw m oo wo of'' wf'') ∧ Hid (Fr (fun k => B k) w wq)) (fun v _ => L - (intOf v).toNat)
      case atStart => exact ⟨0, of', wf', rfl, Nat.zero_le _, HSH, HBK, HF⟩
      case round =>
        clear HSH HBK HF x0 y0 y1
        obtain ⟨k, of'', wf'', rfl, hk, HSH, HBK, HF⟩ := hrel
        have hwk : IntKind.i64.wrap ((k : Int) + 1) = (k : Int) + 1 := IntWalk.i64_in _ (by omega)
        by_cases hkl : k < L
        · have d2 : decide ((k : Int) < (L : Int)) = true := decide_eq_true (by omega)
          have d2' : decide (k < L) = true := decide_eq_true hkl
          have hki : (k : Int) < (L : Int) := by omega
          obtain ⟨htf, hLx⟩ := HLL.out of'' HSH.out
          have hlo : of''.length = nf := by rw [shape_len HSH.out, HNF.out]
          have hlw : wf''.length = nf := by
            have := congrArg List.length HBK.out.ef
            rw [List.length_map, List.length_map] at this
            omega
          have htw : t < wf''.length := by omega
          have hTT : (oo ++ of'').length = T := by rw [List.length_append, HBK.out.lo, hlo]; exact HTM.out.symm
          have hTW : (wo ++ wf'').length = T := by rw [List.length_append, HBK.out.lw, hlw]; exact HTM.out.symm
          obtain ⟨go, gw, co', cw', ⟨y0, y1⟩, x0, x1, _, bgw⟩ := HBK.out.view htf htw HTI.out hTT hTW
          obtain ⟨vo, vw, b1, b2, b3⟩ := HBK.out.bk
          have hLw : wf''[t].d.length = L := by
            have z : (of''.map TL.d)[t]? = (wf''.map TL.d)[t]? := by rw [HBK.out.ef]
            rw [List.getElem?_map, List.getElem?_map, List.getElem?_eq_getElem htf, List.getElem?_eq_getElem htw] at z
            have z := Option.some.inj z
            rw [← z]; exact hLx
          have l1 := HBK.out.lr of''[t] (List.mem_append_left _ (List.getElem_mem htf))
          have l2 := HBK.out.lr wf''[t] (List.mem_append_right _ (List.getElem_mem htw))
          obtain ⟨g, hg, hv, hc, hz⟩ := l1.slot (k := k) (by rw [hLx]; exact hkl)
          obtain ⟨g', hg', hv', hc', hz'⟩ := l2.slot (k := k) (by rw [hLw]; exact hkl)
          rw [hv, hLx] at x0
          rw [hv', hLw] at x1
          have n1 : ¬ (hb = g) := fun e => by subst e; exact (Row.bt l1 hg).ne b1.bt (by decide) rfl
          have n2 : ¬ (g' = g) := fun e => (List.pairwise_append.1 HBK.out.ap).2.2 _ (List.getElem_mem htf) _ (List.getElem_mem htw) g hg (by rw [← e]; exact hg')
          have n3 : ¬ (gw = g) := fun e => by subst e; exact (Row.bt l1 hg).ne bgw (by decide) rfl
          have HMK := Lib.hid (fun w4 w7 u (hF4 : Fr No wr w4) (hF7 : Fr No (w4.setCell ⟨g, k, none⟩ (sv u)) w7) => HBK.out.mark (w1 := w4) (w3 := w7) htf htw (k := k) (g := g) (g' := g') (by rw [hLx]; exact hkl) hg hg' u hF4 hF7)
          obtain ⟨u, hu⟩ : ∃ u, 42 :: Lib.decDigits i = u := ⟨_, rfl⟩
          rw [hu] at HM
          have HG1 := Lib.hid hg
          have HG2 := Lib.hid hg'
          clear hv hv' l1 l2 b1 b2 b3 bgw hTT hTW hlo hlw hg hg' hu
          go_wp2
          go_region_law (first | (go_simp; go_at_call 33; refine (HM.out _).mono ?_; rintro e w4 ⟨rfl, hF4⟩; have hF4 : Fr No wr w4 := ((Fr.refl No wr).drew).then_ hF4; have p0 := keepC hF4 y0 id; have p1 := keepC hF4 x0 id; have pc := keepC hF4 hc id; have pz := keepZ hF4 hc id (hz k)))
          all_goals
            have hS5 : Fr (fun q => q = g) wr (w4.setCell ⟨g, k, none⟩ (.string ⟨u.toArray⟩)) := (hF4.mono (S' := fun q => q = g) (fun _ _ q => q.elim)).set (p := ⟨g, k, none⟩) (.inl rfl) _
            have r0 := keepC hS5 y1 n1
            have r1 := keepC hS5 x1 n3
            have r2 := keepC hS5 hc' n2
            have rz := keepZ hS5 hc' n2 (hz' k)
            have HMK2 := Lib.hid (fun w7 (hF7 : Fr No (w4.setCell ⟨g, k, none⟩ (.string ⟨u.toArray⟩)) w7) => HMK.out w4 w7 u hF4 hF7)
            generalize w4.setCell ⟨g, k, none⟩ (.string ⟨u.toArray⟩) = w5 at *
            clear hF4 p0 p1 pc pz hS5 HMK y0 y1 x0 x1 hc hz hc' hz'
            go_wp2
            go_region_law (first | (go_simp; go_at_call 33; refine (HM.out _).mono ?_; rintro e w6 ⟨rfl, hF6⟩; have hF6 : Fr No w5 w6 := ((Fr.refl No w5).drew).then_ hF6; have p0 := keepC hF6 r0 id; have p1 := keepC hF6 r1 id; have pc := keepC hF6 r2 id; have pz := keepZ hF6 r2 id rz))
            all_goals
              have HB6 := Lib.hid (HMK2.out w6 hF6)
              have HSH6 := Lib.hid (show (of''.set t (mkd of''[t] k u)).map lenD = of.map lenD by rw [shape_mark htf]; exact HSH.out)
              have HF6 := Lib.hid (HF.out.trans HB6.out.2 (fun q _ hq => by
                rcases hq with rfl | rfl
                · exact HBK.out.xn _ (List.mem_append_left _ (List.getElem_mem htf)) _ HG1.out
                · exact HBK.out.xn _ (List.mem_append_right _ (List.getElem_mem htw)) _ HG2.out))
              have HB6 := Lib.hid HB6.out.1
              clear hF6 p0 p1 pc pz HMK2 r0 r1 r2 rz
              go_wp2
              go_roundw
              case rel => exact ⟨k + 1, _, _, by go_num, by omega, HSH6, HB6, HF6⟩
              case measure => simp [intOf]; omega
        · obtain rfl : k = L := by omega
          have d2 : decide ((k : Int) < (k : Int)) = false := decide_eq_false (by omega)
          have d2' : decide (k < k) = false := decide_eq_false (by omega)
          go_wp2
          go_roundw
          case rel => exact ⟨i + 1, of'', wf'', by go_num, by omega, by omega, HSH, HBK, HF⟩
          case measure => simp [intOf]; omega
    · obtain rfl : i = T := by omega
      have d1 : decide ((i : Int) < (i : Int)) = false := decide_eq_false (by omega)
      have d1' : decide (i < i) = false := decide_eq_false (by omega)
      have hlo : of'.length = nf := by rw [shape_len HSH.out, HNF.out]
      have HG0 := Lib.hid (Grw.start HBK.out)
      have HOL := Lib.hid (show (oo ++ of').length = i by rw [List.length_append, HBK.out.lo, hlo]; exact HTM.out.symm)
      have HSM := Lib.hid (show ∀ x ∈ oo ++ of', x.d.length ≤ 10000 from fun x hx => by
        rcases List.mem_append.1 hx with hx | hx
        · exact HS2.out x hx
        · obtain ⟨q, hq, rfl⟩ := List.mem_iff_getElem.1 hx
          have h' : q < of.length := by rw [← shape_len HSH.out]; exact hq
          rw [shape_at HSH.out hq h']
          have := HS3.out of[q] (List.getElem_mem h')
          omega)
      have HLO := Lib.hid hlo
      have HEF := Lib.hid HBK.out.ef
      have HLOO := Lib.hid HBK.out.lo
      have HLWO := Lib.hid HBK.out.lw
      clear hlo
      go_wp2
      go_loopw [8] (fun v wq => ∃ (t j : Nat) (ro2 rw2 : Option Nat) (os ws : List TL), v = .int .i64 (j : Int) ∧ t ≤ nf ∧ j ≤ i ∧ Hid (m + t = j) ∧ Hid (Grw B wq hb ro2 rw2 m os ws (of'.drop t)) ∧ Hid (∃ nl, os = (oo ++ of') ++ nl) ∧ Hid (∃ nm, ws = (wo ++ wf') ++ nm) ∧ Hid (os.length = i + t) ∧ Hid (∀ x ∈ os, x.d.length ≤ 10000) ∧ Hid (Fr (fun k => B k) w wq)) (fun v _ => i - (intOf v).toNat)
      case atStart => exact ⟨0, m, ro, rw, oo ++ of', wo ++ wf', rfl, Nat.zero_le _, hmi, rfl, by show _; rw [List.drop_zero]; exact HG0.out, ⟨[], (List.append_nil _).symm⟩, ⟨[], (List.append_nil _).symm⟩, HOL.out, HSM.out, HF.out⟩
      case round =>
        clear HG0 HOL HSM HBK HF
        obtain ⟨t, j, ro2, rw2, os, ws, rfl, htn, hji, HTJ, HG, HNL, HNM, HOL, HSM, HF⟩ := hrel
        by_cases hlt : j < i
        · have d3 : decide ((j : Int) < (i : Int)) = true := decide_eq_true (by omega)
          have d3' : decide (j < i) = true := decide_eq_true hlt
          have hji2 : (j : Int) < (i : Int) := by omega
          have hwj : IntKind.i64.wrap ((j : Int) + 1) = (j : Int) + 1 := IntWalk.i64_in _ (by omega)
          have htf : t < of'.length := by
            rw [HLO.out]
            have := HTM.out
            have := HTJ.out
            omega
          have htw : t < wf'.length := by
            have := congrArg List.length HEF.out
            rw [List.length_map, List.length_map] at this
            omega
          obtain ⟨N, hN⟩ : ∃ N, os.length = N := ⟨_, rfl⟩
          have hNw : ws.length = N := by
            have := congrArg List.length HG.out.eq
            rw [List.length_map, List.length_map] at this
            omega
          have hNb : N ≤ 800000 := by
            have := HOL.out
            have := HTM.out
            omega
          have hox : os[j]? = some of'[t] := by
            obtain ⟨nl, hnl⟩ := HNL.out
            exact part_at hnl HLOO.out HTJ.out htf
          have hwx : ws[j]? = some wf'[t] := by
            obtain ⟨nm, hnm⟩ := HNM.out
            exact part_at hnm HLWO.out HTJ.out htw
          obtain ⟨go, gw, co', cw', ⟨y0, y1⟩, x0, x1⟩ := HG.out.view hox hwx hN hNw
          have hLw : of'[t].d = wf'[t].d := by
            have z : (of'.map TL.d)[t]? = (wf'.map TL.d)[t]? := by rw [HEF.out]
            rw [List.getElem?_map, List.getElem?_map, List.getElem?_eq_getElem htf, List.getElem?_eq_getElem htw] at z
            exact Option.some.inj z
          have HDR := Lib.hid (show of'.drop t = of'[t] :: of'.drop (t + 1) from List.drop_eq_getElem_cons htf)
          have HLZ := Lib.hid (show LT wr of'[t] from HG.out.lr _ (by rw [HDR.out]; exact List.mem_cons_self ..))
          have hzl : of'[t].d.length ≤ 8192 := by
            have h' : t < of.length := by rw [← shape_len HSH.out]; exact htf
            rw [shape_at HSH.out htf h']
            exact HS3.out of[t] (List.getElem_mem h')
          have HYR := Lib.hid (show TR Any wr wf'[t].A wf'[t].d by
            rcases HG.out.rd wf'[t] (List.mem_append_right _ (List.mem_of_getElem? hwx)) with q | q
            · exact Row.tr (D := Any) (HG.out.lr _ q) (fun _ _ => trivial)
            · exact q.any)
          have hjN : j < N := by have := HOL.out; omega
          have hjN2 : (j : Int) < (N : Int) := by omega
          have HDRG := Lib.hid (show Grw B wr hb ro2 rw2 m os ws (of'[t] :: of'.drop (t + 1)) by rw [← HDR.out]; exact HG.out)
          have HZT := Lib.hid (fun k (hk : of'[t].b = some k) => Row.bt HLZ.out hk)
          have HZP := Lib.hid (List.pairwise_cons.1 HDRG.out.ap).1
          have HFL := Lib.hid (fun y (hy : y ∈ of'.drop (t + 1)) k (hk : y.b = some k) => Row.lt (HDRG.out.lr y (List.mem_cons_of_mem _ hy)) hk)
          obtain ⟨vo, vw, b1, b2, b3⟩ := HG.out.bk
          obtain ⟨Ao, coo, rfl, _⟩ := b2.val
          obtain ⟨Aw, cww, rfl, _⟩ := b3.val
          rw [hN] at b1 b2
          rw [hNw] at b1 b3
          have HB1 := Lib.hid b1
          have HB2 := Lib.hid b2
          have HB3 := Lib.hid b3
          have HNN := Lib.hid hN
          have HNW := Lib.hid hNw
          clear b1 b2 b3 hN hNw hox hwx HG HDR
          obtain ⟨wS, rfl⟩ : ∃ wS, wS = wr := ⟨_, rfl⟩
          generalize of'[t] = z at *
          generalize wf'[t] = y at *
          obtain ⟨zA, zc, zb, zd⟩ := z
          obtain ⟨yA, yc, yb, yd⟩ := y
          dsimp only at *
          subst hLw
          obtain ⟨L, hL⟩ : ∃ L, zd.length = L := ⟨_, rfl⟩
          have HLL := Lib.hid hL
          unfold TL.v at x0 x1
          dsimp only at x0 x1
          rw [hL] at x0 x1 hzl
          clear hL
          have HCL := Lib.hid (fun W (hW : Fr No wS W) (h0 : 0 < L) => TR.cells (HYR.out.fr hW (fun _ _ _ q => q)) (by rw [HLL.out]; exact h0))
          have HM := Lib.hid (fun W => wMark j (by omega) W)
          obtain ⟨u, hu⟩ : ∃ u, 42 :: Lib.decDigits j = u := ⟨_, rfl⟩
          rw [hu] at HM
          clear hu HYR
          go_wp2
          go_region_law (first | (refine st_append _ rfl (.const (.slice none 0 0)) (.tmp 81) 26 rfl 9 _ 1 16 Tryd.underlying26 infoStr rfl (by decide) none _ 0 [] rfl (Row.nil _ _ _) yA L yc (zd.map sv) rfl (by rw [List.length_map, HLL.out, Nat.mul_one]) (fun h0 => HCL.out _ ((Fr.refl _ _).drew) h0) (sv_one _) (by unfold maxLen; omega) (by omega) ?_; intro A4 c4 w4 rb4 hr4 hF4 hn4; rw [Nat.zero_add, List.nil_append] at hr4; have hF40 : Fr No wS w4 := ((Fr.refl No wS).drew).then_ (hF4.mono (fun _ _ q => by cases q)); have hN4 : ∀ k, rb4 = some k → wS.heap.size ≤ k := (fun k hk => by (rcases hn4 with q | ⟨q', q, hq⟩; (rw [q] at hk; cases hk); (rw [q] at hk; cases hk; exact hq))); have p0 := keepC hF40 y0 id; have p1 := keepC hF40 y1 id; have px := keepC hF40 x0 id; have py := keepC hF40 x1 id))
          all_goals
            have GZ := Lib.hid (Gz.start HLZ.out hF40 (mA := A4) (mc := c4) (mb := rb4) (by dsimp only; rw [HLL.out]; exact hr4) hN4)
            clear hr4 hF4 hn4 hF40 hN4 HCL
            try clear p0 p1 px py
            try clear y0 y1 x0 x1
            go_wp2
            go_loopw [9, 10, 83] (fun la ma v wq => ∃ (k : Nat) (dl : List (List UInt8)) (lA : Option Addr) (lc : Nat) (lb : Option Nat) (mA : Option Addr) (mc : Nat) (mb : Option Nat), k ≤ 40 ∧ v = .int .i64 (k : Int) ∧ la = .slice lA (L + k) lc ∧ ma = .slice mA (L + k) mc ∧ dl.length = k ∧ Hid (Gz wS wq ⟨zA, zc, zb, zd⟩ dl dl lA lc lb mA mc mb)) (fun _ _ v _ => 40 - (intOf v).toNat)
            case atStart => exact ⟨0, [], zA, zc, zb, A4, c4, rb4, Nat.zero_le _, rfl, rfl, rfl, rfl, GZ⟩
            case round =>
              clear GZ
              obtain ⟨k, dl, lA, lc, lb, mA, mc, mb, hk, rfl, rfl, rfl, hdl, GZ⟩ := hrel
              have hwk : IntKind.i64.wrap ((k : Int) + 1) = (k : Int) + 1 := IntWalk.i64_in _ (by omega)
              have HDL := Lib.hid hdl
              by_cases hk1 : k < 40
              · have dk : decide ((k : Int) < 40) = true := decide_eq_true (by omega)
                clear hdl
                go_wp2_with fail
                refine (HM.out _).mono ?_
                rintro e w5 ⟨rfl, hF5⟩
                have Ga := Lib.hid (GZ.out.quiet (hF5.alloc (.cells #[sv u] 9 (0, 0))))
                have HRl := Lib.hid (show Row (w5.alloc (.cells #[sv u] 9 (0, 0))) 9 1 lb (.slice lA (L + k) lc) (L + k) ((zd ++ dl).map sv) from by
                  have := Ga.out.l
                  dsimp only at this
                  rw [HLL.out, HDL.out] at this
                  exact this)
                have HBa := Lib.hid (newText w5 u)
                clear GZ hF5
                go_wp2_with (at_builtin; refine wl_appendS rfl (.tmp 85) (.tmp 88) rfl rfl lb _ (L + k) (zd ++ dl) rfl HRl.out ⟨w5.heap.size, 0, none⟩ 1 1 [u] rfl rfl (by omega) HBa.out (by omega) ?_; intro A6 c6 w6 lb6 hr6 hd6)
                have G6 := Lib.hid (Gz.growL Ga.out u (by dsimp only; rw [HLL.out, HDL.out]; exact hr6) hd6)
                clear hr6 hd6 Ga HRl HBa
                refine (HM.out _).mono ?_
                rintro e w7 ⟨rfl, hF7⟩
                have Gb := Lib.hid (G6.out.quiet (hF7.alloc (.cells #[sv u] 9 (0, 0))))
                have HRm := Lib.hid (show Row (w7.alloc (.cells #[sv u] 9 (0, 0))) 9 1 mb (.slice mA (L + k) mc) (L + k) ((zd ++ dl).map sv) from by
                  have := Gb.out.m
                  dsimp only at this
                  rw [HLL.out, HDL.out] at this
                  exact this)
                have HBb := Lib.hid (newText w7 u)
                clear G6 hF7
                go_wp2_with (at_builtin; refine wl_appendS rfl (.tmp 90) (.tmp 93) rfl rfl mb _ (L + k) (zd ++ dl) rfl HRm.out ⟨w7.heap.size, 0, none⟩ 1 1 [u] rfl rfl (by omega) HBb.out (by omega) ?_; intro A8 c8 w8 mb8 hr8 hd8)
                have G8 := Lib.hid (Gz.growM Gb.out u (by dsimp only; rw [HLL.out, HDL.out]; exact hr8) hd8)
                clear hr8 hd8 Gb HRm HBb
                go_roundw
                case rel => exact ⟨k + 1, dl ++ [u], A6, c6, lb6, A8, c8, mb8, by omega, by go_num, rfl, rfl, by rw [List.length_append, HDL.out]; rfl, G8⟩
                case measure => simp [intOf]; omega
              · obtain rfl : k = 40 := by omega
                have dk : decide (((40 : Nat) : Int) < 40) = false := decide_eq_false (by omega)
                have HDLx := Lib.hid hdl
                clear hdl hk
                have hdl40 := HDLx.out
                have hF0 : Fr (fun k => zb = some k) wS wr := GZ.out.fr
                have hzne : ∀ k, zb = some k → k ≠ hb ∧ ro2 ≠ some k ∧ rw2 ≠ some k := fun k hk => ⟨fun e => by subst e; exact (HZT.out k hk).ne HB1.out.bt (by decide) rfl, fun e => (HZT.out k hk).ne (HB2.out.bt e) (by decide) rfl, fun e => (HZT.out k hk).ne (HB3.out.bt e) (by decide) rfl⟩
                have hk0 := HB1.out.fr hF0 (fun q => (hzne hb q).1 rfl)
                have ho0 := HB2.out.fr hF0 (fun k hk q => (hzne k q).2.1 hk)
                have hw0 := HB3.out.fr hF0 (fun k hk q => (hzne k q).2.2 hk)
                obtain ⟨w1, hw1⟩ : ∃ w1, wr.alloc (.cells #[.slice lA (L + 40) lc] 26 (0, 0)) = w1 := ⟨_, rfl⟩
                have hF1 : Fr No wr w1 := by rw [← hw1]; exact (Fr.refl _ _).alloc _
                have HNEW := Lib.hid (fun (_ : 0 < 1) => show ∃ ad, some (⟨wr.heap.size, 0, none⟩ : Addr) = some ad ∧ ∀ (j : Nat) (u : Value), [Value.slice lA (L + 40) lc][j]? = some u → w1.cell? (ad.add j) = some u from
                  ⟨_, rfl, fun j u hj => by rw [add0, ← hw1]; exact ((Bk.new wr 26 [Value.slice lA (L + 40) lc]).cell j).trans hj⟩)
                have HR1 := Lib.hid (ho0.fr hF1 (fun _ _ q => q))
                have HW1 := Lib.hid (hw0.fr hF1 (fun _ _ q => q))
                have HK1 := Lib.hid (hk0.fr hF1 id)
                have G1 := Lib.hid (GZ.out.quiet hF1)
                have HF01 := Lib.hid (hF0.trans hF1 (fun _ _ q => q.elim))
                have HNE := Lib.hid (show ¬ (ro2 = some hb) from fun q => (ho0.bt q).ne hk0.bt (by decide) rfl)
                have HNWB := Lib.hid (show ¬ (rw2 = some hb) from fun q => (hw0.bt q).ne hk0.bt (by decide) rfl)
                have HZN := Lib.hid hzne
                obtain ⟨y0, y1, y2, yf⟩ := hk0.three
                clear hF0 hzne hk0 ho0 hw0 hF1 GZ hdl40
                go_upto_region 22 with (at_builtin; refine wl_append _ rfl (.tmp 100) (.tmp 102) 30 rfl 26 _ 1 24 Tryd.underlying30 infoSs rfl (by decide) ro2 _ N (os.map TL.v) rfl HR1.out (some ⟨wr.heap.size, 0, none⟩) 1 1 [Value.slice lA (L + 40) lc] rfl rfl HNEW.out (by simp [Value.oneCell']) (by unfold maxLen; omega) (by omega) ?_; intro A2 c2 w2 ro3 hrow2 hF2 hnb2; obtain ⟨z0, z1, z2, zf⟩ := (HK1.out.fr hF2 HNE.out).three)
                have hF3 : Fr (fun k => k = hb) w2 (w2.setCell ⟨hb, 0, none⟩ (.slice A2 (N + 1) c2)) := (Fr.refl (fun k => k = hb) w2).set (p := ⟨hb, 0, none⟩) (.inl rfl) _
                have hk2 := HK1.out.fr hF2 HNE.out
                have hk3 : Bk (w2.setCell ⟨hb, 0, none⟩ (.slice A2 (N + 1) c2)) hb 32 [.slice A2 (N + 1) c2, .slice Aw N cww, .int .i64 (m : Int)] := hk2.set 0 _
                have hro3 := hrow2.fr hF3 (fun k hk q => by subst q; exact (hrow2.bt hk).ne hk2.bt (by decide) rfl)
                have hrw2 := HW1.out.fr hF2 (fun k hk q => HDRG.out.ne k q hk)
                have hrw3 := hrw2.fr hF3 (fun k hk q => by subst q; exact (hrw2.bt hk).ne hk2.bt (by decide) rfl)
                have HE3 := Lib.hid (show Fr (fun k => k = hb ∨ ro2 = some k ∨ rw2 = some k) w1 (w2.setCell ⟨hb, 0, none⟩ (.slice A2 (N + 1) c2)) from (hF2.mono (S' := fun k => k = hb ∨ ro2 = some k ∨ rw2 = some k) (fun _ _ q => .inr (.inl q))).trans hF3 (fun _ _ q => .inl q))
                generalize hw3 : w2.setCell ⟨hb, 0, none⟩ (.slice A2 (N + 1) c2) = w3 at *
                obtain ⟨w4, hw4⟩ : ∃ w4, w3.alloc (.cells #[.slice mA (L + 40) mc] 26 (0, 0)) = w4 := ⟨_, rfl⟩
                have hF4 : Fr No w3 w4 := by rw [← hw4]; exact (Fr.refl _ _).alloc _
                have HNEW4 := Lib.hid (fun (_ : 0 < 1) => show ∃ ad, some (⟨w3.heap.size, 0, none⟩ : Addr) = some ad ∧ ∀ (j : Nat) (u : Value), [Value.slice mA (L + 40) mc][j]? = some u → w4.cell? (ad.add j) = some u from
                  ⟨_, rfl, fun j u hj => by rw [add0, ← hw4]; exact ((Bk.new w3 26 [Value.slice mA (L + 40) mc]).cell j).trans hj⟩)
                have HRO4 := Lib.hid (hro3.fr hF4 (fun _ _ q => q))
                have HRW4 := Lib.hid (hrw3.fr hF4 (fun _ _ q => q))
                have HK4 := Lib.hid (hk3.fr hF4 id)
                have HE4 := Lib.hid (HE3.out.trans hF4 (fun _ _ q => q.elim))
                have HNB2 := Lib.hid hnb2
                obtain ⟨q0, q1, q2, qf⟩ := hk3.three
                clear hF3 hk2 hk3 hro3 hrw2 hrw3 HE3 hw3 hF4 hF2 hrow2 hnb2 z0 z1 z2 zf y0 y1 y2 yf HR1 HW1 HK1 HNEW hw1
                go_wp2_with (at_builtin; refine wl_append _ rfl (.tmp 110) (.tmp 112) 30 rfl 26 _ 1 24 Tryd.underlying30 infoSs rfl (by decide) rw2 _ N (ws.map TL.v) rfl HRW4.out (some ⟨w3.heap.size, 0, none⟩) 1 1 [Value.slice mA (L + 40) mc] rfl rfl HNEW4.out (by simp [Value.oneCell']) (by unfold maxLen; omega) (by omega) ?_; intro A5 c5 w5 rw5 hrow5 hF5 hnb5; obtain ⟨p0, p1, p2, pf⟩ := (HK4.out.fr hF5 HNWB.out).three)
                have hk5 := HK4.out.fr hF5 HNWB.out
                have hF6 : Fr (fun k => k = hb) w5 (w5.setCell ⟨hb, 1, none⟩ (.slice A5 (N + 1) c5)) := (Fr.refl (fun k => k = hb) w5).set (p := ⟨hb, 1, none⟩) (.inl rfl) _
                have hk6 : Bk (w5.setCell ⟨hb, 1, none⟩ (.slice A5 (N + 1) c5)) hb 32 [.slice A2 (N + 1) c2, .slice A5 (N + 1) c5, .int .i64 (m : Int)] := hk5.set 1 _
                have hs0 := HF01.out.size
                have hs1 := HE4.out.size
                have hBS : ∀ k, wS.heap.size ≤ k → B k := fun k hk => HBW.out k (Nat.le_trans HF.out.size hk)
                have hrwlt : ∀ k, rw2 = some k → k < w1.heap.size := fun k hk => by
                  have := (HB3.out.bt hk).lt
                  omega
                have hron : ∀ k, ro3 = some k → B k ∧ rw2 ≠ some k := fun k hk => by
                  rcases HNB2.out with q | ⟨q', q, hq⟩
                  · rw [q] at hk
                    exact ⟨HDRG.out.ron k hk, HDRG.out.ne k hk⟩
                  · rw [q] at hk
                    cases hk
                    exact ⟨hBS _ (by omega), fun e => by have := hrwlt k e; omega⟩
                have hrwn : ∀ k, rw5 = some k → B k ∧ ro3 ≠ some k := fun k hk => by
                  rcases hnb5 with q | ⟨q', q, hq⟩
                  · rw [q] at hk
                    exact ⟨HDRG.out.rwn k hk, fun e => (hron k e).2 hk⟩
                  · rw [q] at hk
                    cases hk
                    exact ⟨hBS _ (by omega), fun e => by have := (HRO4.out.bt e).lt; omega⟩
                have hro5 := HRO4.out.fr hF5 (fun k hk q => (hron k hk).2 q)
                have hro6 := hro5.fr hF6 (fun k hk q => by subst q; exact (hro5.bt hk).ne hk5.bt (by decide) rfl)
                have hrw6 := hrow5.fr hF6 (fun k hk q => by subst q; exact (hrow5.bt hk).ne hk5.bt (by decide) rfl)
                have hE6 := (HE4.out.trans hF5 (fun _ _ q => .inr (.inr q))).trans hF6 (fun _ _ q => .inl q)
                generalize hw6 : w5.setCell ⟨hb, 1, none⟩ (.slice A5 (N + 1) c5) = w6 at *
                have hl1 := G1.out.l
                have hm1' := G1.out.m
                have tH : BT w1 hb 32 := HB1.out.bt.fr HF01.out (fun q => (HZN.out hb q).1 rfl)
                have tO : ∀ k, ro2 = some k → BT w1 k 26 := fun k hk => (HB2.out.bt hk).fr HF01.out (fun q => (HZN.out k q).2.1 hk)
                have tW : ∀ k, rw2 = some k → BT w1 k 26 := fun k hk => (HB3.out.bt hk).fr HF01.out (fun q => (HZN.out k q).2.2 hk)
                have outS : ∀ k, BT w1 k 9 → ¬ (k = hb ∨ ro2 = some k ∨ rw2 = some k) := fun k hk q => by
                  rcases q with rfl | q | q
                  · exact hk.ne tH (by decide) rfl
                  · exact hk.ne (tO k q) (by decide) rfl
                  · exact hk.ne (tW k q) (by decide) rfl
                have hl6 := hl1.fr hE6 (fun k hk => outS k (hl1.bt hk))
                have hm6 := hm1'.fr hE6 (fun k hk => outS k (hm1'.bt hk))
                have hz6 := zr_fr (z := ⟨zA, zc, zb, zd⟩) G1.out.zr hE6 (fun k hk q => by
                  rcases q with rfl | q | q
                  · exact (HZN.out _ hk).1 rfl
                  · exact (HZN.out _ hk).2.1 q
                  · exact (HZN.out _ hk).2.2 q)
                have hS6 : Fr (fun k => zb = some k ∨ k = hb ∨ ro2 = some k ∨ rw2 = some k) wS w6 := (HF01.out.mono (S' := fun k => zb = some k ∨ k = hb ∨ ro2 = some k ∨ rw2 = some k) (fun _ _ q => .inl q)).trans hE6 (fun _ _ q => .inr q)
                have hlen0 : zd.length = L := HLL.out
                have hlen : (zd ++ dl).length = L + 40 := by rw [List.length_append, HDLx.out, hlen0]
                have hlz := G1.out.lz
                have hmz := G1.out.mz
                dsimp only at hl6 hm6 hz6 hlz hmz
                have zfar : ∀ y ∈ of'.drop (t + 1), ∀ k, zb = some k → y.b ≠ some k := fun y hy k hk => HZP.out y hy k hk
                have newfar : ∀ y ∈ of'.drop (t + 1), ∀ k, wS.heap.size ≤ k → y.b ≠ some k := fun y hy k hk e => by
                  have := HFL.out y hy k e
                  omega
                rw [hlen0, HDLx.out] at hl6 hm6
                have hG := Grw.next (lz := ⟨lA, lc, lb, zd ++ dl⟩) (mz := ⟨mA, mc, mb, zd ++ dl⟩) HDRG.out hS6 hk6
                  (by
                    rw [List.length_append, HNN.out, List.map_append]
                    show Row _ _ _ _ _ (N + 1) (os.map TL.v ++ [.slice lA (zd ++ dl).length lc])
                    rw [hlen]; exact hro6)
                  (by
                    rw [List.length_append, HNW.out, List.map_append]
                    show Row _ _ _ _ _ (N + 1) (ws.map TL.v ++ [.slice mA (zd ++ dl).length mc])
                    rw [hlen]; exact hrw6)
                  rfl (fun j u hj => by
                    obtain ⟨ad, e, ⟨d1, d2⟩, c⟩ := hz6 j u hj
                    exact ⟨ad, e, ⟨d2, fun y hy => zfar y hy _ d1⟩, c⟩)
                  (Row.tr hl6 (fun k hk => ⟨Row.bt hl6 hk, fun y hy => by
                    rcases hlz with e | ⟨k', e, hk'⟩
                    · exact zfar y hy k (e ▸ hk)
                    · rw [e] at hk
                      cases hk
                      exact newfar y hy k hk'⟩))
                  (Row.tr hm6 (fun k hk => ⟨Row.bt hm6 hk, fun y hy => newfar y hy k (hmz k hk).1⟩))
                  (fun k hk e => (hrwn k e).2 hk) (fun k hk => (hron k hk).1) (fun k hk => (hrwn k hk).1)
                  (fun _ ad hA => by
                    have hb6 := Row.blk hl6 (by omega) hA
                    rcases hlz with e | ⟨k', e, hk'⟩
                    · exact HDRG.out.xn _ (List.mem_cons_self ..) _ (e ▸ hb6)
                    · rw [e] at hb6
                      cases hb6
                      exact hBS _ hk')
                  (fun _ ad hA => hBS _ (hmz _ (Row.blk hm6 (by omega) hA)).1)
                have HG6 := Lib.hid hG
                have HL6 := Lib.hid (show ∀ x ∈ os ++ [(⟨lA, lc, lb, zd ++ dl⟩ : TL)], x.d.length ≤ 10000 from fun x hx => by
                  rcases List.mem_append.1 hx with hx | hx
                  · exact HSM.out x hx
                  · rw [List.mem_singleton.1 hx]
                    dsimp only
                    omega)
                have HF6 := Lib.hid (HF.out.trans hS6 (fun k hk q => by
                  rcases q with q | rfl | q | q
                  · exact HDRG.out.xn _ (List.mem_cons_self ..) k q
                  · exact HDRG.out.hbn
                  · exact HDRG.out.ron k q
                  · exact HDRG.out.rwn k q))
                have HNL6 := Lib.hid (show ∃ nl, os ++ [(⟨lA, lc, lb, zd ++ dl⟩ : TL)] = (oo ++ of') ++ nl by
                  obtain ⟨nl, e⟩ := HNL.out
                  exact ⟨nl ++ [(⟨lA, lc, lb, zd ++ dl⟩ : TL)], by rw [e, List.append_assoc]⟩)
                have HNM6 := Lib.hid (show ∃ nm, ws ++ [(⟨mA, mc, mb, zd ++ dl⟩ : TL)] = (wo ++ wf') ++ nm by
                  obtain ⟨nm, e⟩ := HNM.out
                  exact ⟨nm ++ [(⟨mA, mc, mb, zd ++ dl⟩ : TL)], by rw [e, List.append_assoc]⟩)
                have HTJ6 := Lib.hid (show m + (t + 1) = j + 1 by have := HTJ.out; omega)
                have HOL6 := Lib.hid (show (os ++ [(⟨lA, lc, lb, zd ++ dl⟩ : TL)]).length = i + (t + 1) by rw [List.length_append, HOL.out]; rfl)
                clear hG hS6 hl6 hm6 hz6 hE6 hro6 hrw6 hk6 hl1 hm1' hrow5 hF5 hk5 hro5 hF6
                have hjt : t + 1 ≤ nf := by rw [HLO.out] at htf; omega
                go_roundw
                case rel => exact ⟨t + 1, j + 1, ro3, rw5, _, _, by go_num, hjt, by omega, HTJ6, HG6, HNL6, HNM6, HOL6, HL6, HF6⟩
                case measure => simp [intOf]; omega
        · obtain rfl : j = i := by omega
          have d3 : decide ((j : Int) < (j : Int)) = false := decide_eq_false (by omega)
          have d3' : decide (j < j) = false := decide_eq_false (by omega)
          have htn2 : t = nf := by have := HTM.out; have := HTJ.out; omega
          have HGE := Lib.hid (show Grw B wr hb ro2 rw2 m os ws [] by
            have := HG.out
            rwa [List.drop_of_length_le (by rw [HLO.out, htn2]; exact Nat.le_refl _)] at this)
          obtain ⟨vo, vw, b1, b2, b3⟩ := HGE.out.bk
          obtain ⟨Ao2, co2, rfl, _⟩ := b2.val
          obtain ⟨N, hN⟩ : ∃ N, os.length = N := ⟨_, rfl⟩
          rw [hN] at b1 b2
          obtain ⟨y0, y1, y2, yf⟩ := b1.three
          have hB2 : Bk (wr.setCell ⟨hb, 2, none⟩ (.int .i64 (N : Int))) hb 32 [.slice Ao2 N co2, vw, .int .i64 (N : Int)] := b1.set 2 _
          have HBE := Lib.hid (Grw.shut HGE.out hN ((Fr.refl (fun k => k = hb) wr).set (p := ⟨hb, 2, none⟩) (.inl rfl) (.int .i64 (N : Int))) b1 hB2)
          have HFE := Lib.hid (show Fr (fun k => B k) w (wr.setCell ⟨hb, 2, none⟩ (.int .i64 (N : Int))) from HF.out.set (p := ⟨hb, 2, none⟩) (.inl HGE.out.hbn) _)
          have hNb : N ≤ 2 * j := by
            have := HOL.out
            have := HTM.out
            omega
          clear b1 b2 b3 hB2 HG HGE
          have HNN := Lib.hid hN
          have hj4 : j ≤ 400000 := hs1
          have HHE := Lib.hid (bholds B _ hb ro2 rw2 N os ws [] [] HBE.out (by rw [List.append_nil, hN]; omega) (fun x hx => by rw [List.append_nil] at hx; have := HSM.out x hx; omega))
          clear hN
          go_upto_region 24 with (fail)
          generalize wr.setCell ⟨hb, 2, none⟩ (.int .i64 (N : Int)) = w7 at *
          go_wp2_with fail
          refine HHE.out.mono ?_
          rintro e w8 ⟨rfl, hF8⟩
          have HB8 := Lib.hid (HBE.out.no hF8)
          have HF8 := Lib.hid (HFE.out.trans hF8 (fun _ _ q => q.elim))
          clear hF8 y0 y1 y2 yf
          go_wp2
          go_ret
          exact ⟨by simp, ro2, rw2, N, os, ws, HB8.out, by rw [HNN.out]; exact hNb, HSM.out, HF8.out⟩
end Go.Proofs.YtdhlbdllidfenaaDoor.Wd
