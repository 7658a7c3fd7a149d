/- Lists that were handed out: the walk of 'spoil'. Conditions: none. -/
import Derived.Test.YtfpjdgkooikeoaaDoorHelI
import Derived.Deep.DeepCutAuto
namespace Go.Proofs.YtfpjdgkooikeoaaDoor.Sl
open Go.RowKit Go.Proofs.YtfpjdgkooikeoaaDoor.Mem
set_option linter.unusedVariables false
set_option linter.unusedSimpArgs false
theorem len_at {os os1 : List HL} (h : os1.map (fun x => x.d.length) = os.map (fun x => x.d.length)) : os1.length = os.length := by have := congrArg List.length h; simpa using this
theorem lens_at {os os1 : List HL} (h : os1.map (fun x => x.d.length) = os.map (fun x => x.d.length)) {i : Nat} {x y : HL} (hx : os1[i]? = some x) (hy : os[i]? = some y) : x.d.length = y.d.length := by
  have := congrArg (fun l => l[i]?) h
  simpa [List.getElem?_map, hx, hy] using this
theorem Held.wlen {B : Nat} {w : World} {hb : Nat} {ro rw : Option Nat} {os ws : List HL} (h : Held B w hb ro rw os ws) : ws.length = os.length := by have := congrArg List.length h.eq; simpa using this.symm
/-- what a step of the walk reads of the book -/
theorem Held.at_ {B : Nat} {w : World} {hb : Nat} {ro rw : Option Nat} {os ws : List HL} (h : Held B w hb ro rw os ws) (i : Nat) (hi : i < os.length) :
    ∃ go gw co cw x y, os[i]? = some x ∧ ws[i]? = some y ∧ x.d.length = y.d.length ∧ Bk w hb 56 [.slice (some ⟨go, 0, none⟩) os.length co, .slice (some ⟨gw, 0, none⟩) os.length cw] ∧ w.cell? ⟨go, i, none⟩ = some x.v ∧ w.cell? ⟨gw, i, none⟩ = some y.v ∧ BT w go 22 ∧ BT w gw 22 := by
  obtain ⟨vo, vw, h1, h2, h3⟩ := h.bk
  have hwl := h.wlen
  obtain ⟨go, co, hgo, rfl, _, hcell, _⟩ := h2.at_ (by omega)
  obtain ⟨gw, cw, hgw, rfl, _, hcell', _⟩ := h3.at_ (by omega)
  rw [hwl] at h1
  have hxi : os[i]? = some os[i] := List.getElem?_eq_getElem hi
  have hyi : ws[i]? = some (ws[i]'(by omega)) := List.getElem?_eq_getElem (by omega)
  refine ⟨go, gw, co, cw, os[i], ws[i]'(by omega), hxi, hyi, ?_, h1, hcell i _ (by rw [List.getElem?_map, hxi]; rfl), hcell' i _ (by rw [List.getElem?_map, hyi]; rfl), h2.bt hgo, h3.bt hgw⟩
  have := congrArg (fun l => l[i]?) h.eq
  simp only [List.getElem?_map, hxi, hyi, Option.map_some, Option.some.injEq] at this
  rw [this]
set_option maxHeartbeats 8000000 in
set_option maxRecDepth 100000 in
theorem spoil (B : Nat) (w : World) (hb : Nat) (ro rw : Option Nat) (os ws : List HL) (h : Held B w hb ro rw os ws) (hBw : B ≤ w.heap.size) (hn : os.length ≤ 1000) (hd : ∀ x ∈ os, x.d.length ≤ 140737488355000) :
    Calls Tryd.prog 31 #[.pointer (some ⟨hb, 0, none⟩)] w fun e w' => e = .returned (.bool true) ∧ ∃ os' ws', HeldR B w' hb os' ws' ∧ os'.length ≤ 2000 ∧ (∀ x ∈ os', x.d.length ≤ 140737488355100) ∧ Fr (fun k => B ≤ k) w w' := by
  have HBW := Lib.hid hBw
  have HD := Lib.hid hd
  have HH0 := Lib.hid (holds B w hb os ws h.read (by omega) (fun x hx => by have := hd x hx; omega))
  have H0 := Lib.hid h
  obtain ⟨n, hnn⟩ : ∃ n, os.length = n := ⟨_, rfl⟩
  have HN := Lib.hid hnn
  rw [hnn] at hn
  clear h hd hnn hBw
  go_enter Tryd.func31, Tryd.ntmps31
  go_wp2_with fail
  refine HH0.out.mono ?_
  rintro e w1 ⟨rfl, hF1⟩
  have H1 := Lib.hid (H0.out.fr hF1 (fun _ q => q.elim))
  have HF1 := Lib.hid (hF1.mono (S' := fun k => B ≤ k) (fun _ _ q => q.elim))
  obtain ⟨vo, vw, b1, b2, b3⟩ := H1.out.bk
  obtain ⟨Ao, co, rfl, _⟩ := b2.val
  obtain ⟨Aw, cw, rfl, _⟩ := b3.val
  rw [HN.out] at b1
  obtain ⟨y0, y1, yf⟩ := b1.two
  clear hF1 b1 b2 b3 H0 HH0
  go_wp2
  clear y0 y1 yf
  go_loopw [4] (fun v wr => ∃ (i : Nat) (os1 ws1 : List HL), i ≤ n ∧ v = .int .i64 (i : Int) ∧ Hid (Held B wr hb ro rw os1 ws1) ∧ Hid (os1.map (fun x => x.d.length) = os.map (fun x => x.d.length)) ∧ Hid (Fr (fun k => B ≤ k) w wr)) (fun v _ => n - (intOf v).toNat)
  case atStart => exact ⟨0, os, ws, Nat.zero_le _, rfl, H1, rfl, HF1⟩
  case round =>
    clear H1 HF1
    obtain ⟨i, os1, ws1, hi, rfl, H, HLN, HF⟩ := hrel
    have hw : IntKind.i64.wrap ((i : Int) + 1) = (i : Int) + 1 := IntWalk.i64_in _ (by omega)
    by_cases hlt : i < n
    · have di : decide ((i : Int) < (n : Int)) = true := decide_eq_true (by omega)
      have hio : i < os.length := by rw [HN.out]; exact hlt
      obtain ⟨L, hL⟩ : ∃ L, os[i].d.length = L := ⟨_, rfl⟩
      have hLb : L ≤ 140737488355000 := by rw [← hL]; exact HD.out _ (List.getElem_mem _)
      have HLL := Lib.hid hL
      obtain ⟨M, hM⟩ : ∃ M : UInt8, UInt8.ofNat ((i * 7 + 1) % 256) = M := ⟨_, rfl⟩
      have hmk : ((i : Int) * 7 + 1) % 256 = (M.toNat : Int) := by rw [← hM, ofNat_u8 _ (Nat.mod_lt _ (by omega))]; omega
      have hm1 : IntKind.i64.wrap ((i : Int) * 7) = (i : Int) * 7 := IntWalk.i64_in _ (by omega)
      have hm2 : IntKind.i64.wrap ((i : Int) * 7 + 1) = (i : Int) * 7 + 1 := IntWalk.i64_in _ (by omega)
      clear hM hL
      go_wp2
      go_loopw [5] (fun v wq => ∃ (k : Nat) (os2 ws2 : List HL), k ≤ L ∧ v = .int .i64 (k : Int) ∧ Hid (Held B wq hb ro rw os2 ws2) ∧ Hid (os2.map (fun x => x.d.length) = os.map (fun x => x.d.length)) ∧ Hid (Fr (fun k => B ≤ k) w wq)) (fun v _ => L - (intOf v).toNat)
      case atStart => exact ⟨0, os1, ws1, Nat.zero_le _, rfl, H, HLN, HF⟩
      case round =>
        clear H HLN HF
        obtain ⟨k, os2, ws2, hk, rfl, H, HLN, HF⟩ := hrel
        have hwk : IntKind.i64.wrap ((k : Int) + 1) = (k : Int) + 1 := IntWalk.i64_in _ (by omega)
        have hi2 : i < os2.length := by rw [len_at HLN.out]; exact hio
        obtain ⟨go, gw, co2, cw2, x, y, hx, hy, hxy, hbk, x0, x1, t0, t1⟩ := H.out.at_ i hi2
        have hxl : x.d.length = L := (lens_at HLN.out hx (List.getElem?_eq_getElem hio)).trans HLL.out
        have hyl : y.d.length = L := by omega
        rw [len_at HLN.out, HN.out] at hbk
        obtain ⟨y0, y1, yf⟩ := hbk.two
        have hii : (i : Int) < (n : Int) := by omega
        unfold HL.v at x0 x1
        rw [hxl] at x0
        rw [hyl] at x1
        by_cases hkL : k < L
        · have dk : decide ((k : Int) < (L : Int)) = true := decide_eq_true (by omega)
          have hkl : (k : Int) < (L : Int) := by omega
          obtain ⟨g, g', e1, e2, e3, e4, _, _, ⟨u, c1⟩, f1, ⟨u', c2⟩, f2, n1, n2, n3, n4, hH⟩ := H.out.put i k M x y hx hy (by omega)
          rw [e2] at x0
          rw [e4] at x1
          have hF1 : Fr (fun q => q = g) wr (wr.setCell ⟨g, k, none⟩ (.int .u8 (M.toNat : Int))) := (Fr.refl (fun q => q = g) wr).set (p := ⟨g, k, none⟩) (.inl rfl) _
          have hbk1 := hbk.fr hF1 (fun q => n1 q.symm)
          have hg8 : BT wr g 5 := Row.bt (H.out.lr x (List.mem_append_left _ (List.mem_of_getElem? hx))) e1
          have x1' : (wr.setCell ⟨g, k, none⟩ (.int .u8 (M.toNat : Int))).cell? ⟨gw, i, none⟩ = some (.slice (some ⟨g', 0, none⟩) L y.c) := by
            rw [← x1]
            have hb := hF1.block gw t1.lt (fun q => t1.ne hg8 (by decide) q)
            unfold World.cell?
            rw [hb]
          have HF2 := Lib.hid ((HF.out.trans (hF1.mono (S' := fun q => B ≤ q) (fun _ _ q => by rw [q]; exact n3)) (fun _ _ q => q)).set (p := ⟨g', k, none⟩) (.inl n4) (.int .u8 (M.toNat : Int)))
          have HH := Lib.hid hH
          have HLN2 := Lib.hid (show (os2.set i (x.put k M)).map (fun x => x.d.length) = os.map (fun x => x.d.length) by
            rw [← HLN.out, List.map_set]
            refine set_self ?_
            rw [List.getElem?_map, hx]
            unfold HL.put
            simp)
          clear hH H HLN HF hbk t0 t1 e1 e2 e3 e4 n1 n2 n3 n4 hg8 hx hy hxy x1
          go_upto_region 11 with (fail)
          generalize hw3 : wr.setCell ⟨g, k, none⟩ (.int .u8 (M.toNat : Int)) = w3 at *
          obtain ⟨z0, z1, zf⟩ := hbk1.two
          clear hbk1 hF1 hw3 y0 y1 yf x0 c1 f1
          go_wp2
          go_roundw
          case rel => exact ⟨k + 1, _, _, by omega, by go_num, HH, HLN2, HF2⟩
          case measure => simp [intOf]; omega
        · obtain rfl : k = L := by omega
          have dk : decide ((k : Int) < (k : Int)) = false := decide_eq_false (by omega)
          clear hbk t0 t1 hx hy hxy
          go_wp2
          go_roundw
          case rel => exact ⟨i + 1, os2, ws2, by omega, by go_num, H, HLN, HF⟩
          case measure => simp [intOf]; omega
    · obtain rfl : n = i := by omega
      have di : decide ((n : Int) < (n : Int)) = false := decide_eq_false (by omega)
      have hi1 : os1.length = n := by rw [len_at HLN.out, HN.out]
      have HI1 := Lib.hid hi1
      have hd1 : ∀ x ∈ os1, x.d.length ≤ 140737488355000 := fun x hx => by
        obtain ⟨j, hj, rfl⟩ := List.mem_iff_getElem.1 hx
        have hjo : j < os.length := by rw [← len_at HLN.out]; exact hj
        rw [lens_at HLN.out (List.getElem?_eq_getElem hj) (List.getElem?_eq_getElem hjo)]
        exact HD.out _ (List.getElem_mem _)
      have HD1 := Lib.hid hd1
      have HHO := Lib.hid (holds B wr hb os1 ws1 H.out.read (by omega) (fun x hx => by have := hd1 x hx; omega))
      clear HLN hd1 hi1
      go_wp2_with fail
      refine HHO.out.mono ?_
      rintro e w2 ⟨rfl, hF2⟩
      have G2 := Lib.hid ((H.out.fr hF2 (fun _ q => q.elim)).gr)
      have HF2 := Lib.hid (HF.out.trans hF2 (fun _ _ q => q.elim))
      have HL2 := Lib.hid (show ∀ x ∈ os1, x.d.length ≤ 140737488355100 from fun x hx => by have := HD1.out x hx; omega)
      clear HHO hF2 H HF
      go_wp2
      go_loopw [6] (fun v wr => ∃ (i : Nat) (os' ws' : List HL), i ≤ n ∧ v = .int .i64 (i : Int) ∧ os'.length = n + i ∧ Hid (Gr B wr hb os1 i os' ws') ∧ Hid (∀ x ∈ os', x.d.length ≤ 140737488355100) ∧ Hid (Fr (fun k => B ≤ k) w wr)) (fun v _ => n - (intOf v).toNat)
      case atStart => exact ⟨0, os1, ws1, Nat.zero_le _, rfl, by rw [HI1.out]; rfl, G2, HL2, HF2⟩
      case round =>
        clear G2 HL2 HF2
        obtain ⟨i, os', ws', hi', rfl, hol, G, HLB, HF⟩ := hrel
        obtain ⟨wS, rfl⟩ : ∃ wS, wS = wr := ⟨_, rfl⟩
        have hwi : IntKind.i64.wrap ((i : Int) + 1) = (i : Int) + 1 := IntWalk.i64_in _ (by omega)
        have hwl : ws'.length = n + i := by have := congrArg List.length G.out.eq; simpa [hol] using this.symm
        by_cases hlt2 : i < n
        · have hio : i < os1.length := by rw [HI1.out]; exact hlt2
          obtain ⟨z, hz⟩ : ∃ z, os1[i]? = some z := ⟨_, List.getElem?_eq_getElem hio⟩
          have hz' := G.out.pre i z hz
          obtain ⟨y, hy⟩ : ∃ y, ws'[i]? = some y := ⟨_, List.getElem?_eq_getElem (by omega)⟩
          have hyd : z.d = y.d := by
            have := congrArg (fun l => l[i]?) G.out.eq
            simpa [List.getElem?_map, hz', hy] using this
          obtain ⟨ro', rw', vo, vw, b1, b2, b3, r1, r2, r3⟩ := G.out.bk
          rw [hol] at b2
          rw [hwl] at b3
          obtain ⟨go, co, hgo, rfl, _, hcell, _⟩ := b2.at_ (by omega)
          obtain ⟨gw, cw, hgw, rfl, _, hcell', _⟩ := b3.at_ (by omega)
          have x0 := hcell i z.v (by rw [List.getElem?_map, hz']; rfl)
          have x1 := hcell' i y.v (by rw [List.getElem?_map, hy]; rfl)
          obtain ⟨y0, y1, yf⟩ := b1.two
          obtain ⟨L, hL⟩ : ∃ L, z.d.length = L := ⟨_, rfl⟩
          have hLb : L ≤ 140737488355000 := by rw [← hL]; exact HD1.out z (List.mem_of_getElem? hz)
          have hyL : y.d.length = L := by rw [← hyd]; exact hL
          have HLZ := Lib.hid hL
          have hry := (G.out.rd y (List.mem_append_right _ (List.mem_of_getElem? hy))).any
          have HCO := Lib.hid (copiedL y.A L y.c y.d wS hyL (by omega) hry)
          rw [← hyd] at HCO
          unfold HL.v at x0 x1
          rw [hL] at x0
          rw [hyL] at x1
          have hii : (i : Int) < (n : Int) + (i : Int) := by omega
          have hii2 : (i : Int) < ((n + i : Nat) : Int) := by omega
          have di2 : decide ((i : Int) < (n : Int)) = true := decide_eq_true (by omega)
          obtain ⟨M, hM⟩ : ∃ M : UInt8, UInt8.ofNat ((i * 7 + 2) % 256) = M := ⟨_, rfl⟩
          have hmk : ((i : Int) * 7 + 2) % 256 = (M.toNat : Int) := by rw [← hM, ofNat_u8 _ (Nat.mod_lt _ (by omega))]; omega
          have hm1 : IntKind.i64.wrap ((i : Int) * 7) = (i : Int) * 7 := IntWalk.i64_in _ (by omega)
          have hm2 : IntKind.i64.wrap ((i : Int) * 7 + 2) = (i : Int) * 7 + 2 := IntWalk.i64_in _ (by omega)
          have HB1 := Lib.hid b1
          have HB2 := Lib.hid b2
          have HB3 := Lib.hid b3
          have HUN := Lib.hid (G.out.un i z (Nat.le_refl _) hz)
          have HZT := Lib.hid (fun k (hk : z.b = some k) => Row.bt (G.out.un i z (Nat.le_refl _) hz) hk)
          have HZ := Lib.hid hz
          clear hcell hcell' b1 b2 b3 hM hL hyL hry hz hz' hyd hy
          go_wp2_with fail
          refine HCO.out.mono ?_
          rintro e w3 ⟨A3, c3, rb3, rfl, hr3, hF3, hn3⟩
          have GZ := Lib.hid (Gz.start HUN.out hF3 (mA := A3) (mc := c3) (mb := rb3) (by rw [HLZ.out]; exact hr3) hn3)
          clear hr3 hF3 hn3 HCO y0 y1 yf x0 x1 HUN
          obtain ⟨zA, zc, zb, zd⟩ := z
          dsimp only at *
          go_wp2
          go_loopw [7, 8, 9] (fun l m v wq => ∃ (k : Nat) (dl : List UInt8) (lA : Option Addr) (lc : Nat) (lb : Option Nat) (mA : Option Addr) (mc : Nat) (mb : Option Nat), k ≤ 100 ∧ v = .int .i64 (k : Int) ∧ l = .slice lA (L + k) lc ∧ m = .slice mA (L + k) mc ∧ dl.length = k ∧ Hid (Gz wS wq ⟨zA, zc, zb, zd⟩ dl dl lA lc lb mA mc mb)) (fun _ _ v _ => 100 - (intOf v).toNat)
          case atStart => exact ⟨0, [], zA, zc, zb, A3, c3, rb3, Nat.zero_le _, rfl, rfl, rfl, rfl, GZ⟩
          case round =>
            clear GZ
            obtain ⟨k, dl, lA, lc, lb, mA, mc, mb, hk, rfl, rfl, rfl, hdl, GZ⟩ := hrel
            have hwk : IntKind.i64.wrap ((k : Int) + 1) = (k : Int) + 1 := IntWalk.i64_in _ (by omega)
            have HDL := Lib.hid hdl
            by_cases hk1 : k < 100
            · have dk : decide ((k : Int) < 100) = true := decide_eq_true (by omega)
              have Ga := Lib.hid (GZ.out.quiet ((Fr.refl No wr).alloc (.cells #[.int .u8 (M.toNat : Int)] 5 (0, 0))))
              have HRl := Lib.hid (show Row (wr.alloc (.cells #[.int .u8 (M.toNat : Int)] 5 (0, 0))) 5 1 lb (.slice lA (L + k) lc) (L + k) (bv (zd ++ dl)) from by
                have := Ga.out.l
                dsimp only at this
                rw [HLZ.out, HDL.out] at this
                exact this)
              have HBa := Lib.hid (lit_reads wr [M] _ rfl (0, 0))
              clear GZ hdl
              go_wp2_with (first | (at_builtin; refine wl_append8 rfl (.tmp 88) (.tmp 93) rfl rfl lb _ (L + k) (zd ++ dl) rfl HRl.out ⟨wr.heap.size, 0, none⟩ 1 1 [M] rfl rfl (by omega) HBa.out (by omega) ?_; intro A6 c6 w6 lb6 hr6 hd6; have G6 := Lib.hid (Gz.growL Ga.out M (by dsimp only; rw [HLZ.out, HDL.out]; exact hr6) hd6); have Gb := Lib.hid (G6.out.quiet ((Fr.refl No w6).alloc (.cells #[.int .u8 (M.toNat : Int)] 5 (0, 0)))); have HRm := Lib.hid (show Row (w6.alloc (.cells #[.int .u8 (M.toNat : Int)] 5 (0, 0))) 5 1 mb (.slice mA (L + k) mc) (L + k) (bv (zd ++ dl)) from by (have := Gb.out.m; dsimp only at this; rw [HLZ.out, HDL.out] at this; exact this)); have HBb := Lib.hid (lit_reads w6 [M] _ rfl (0, 0)); clear hr6 hd6 Ga HRl HBa G6) | (at_builtin; refine wl_append8 rfl (.tmp 95) (.tmp 100) rfl rfl mb _ (L + k) (zd ++ dl) rfl HRm.out ⟨w6.heap.size, 0, none⟩ 1 1 [M] rfl rfl (by omega) HBb.out (by omega) ?_; intro A8 c8 w8 mb8 hr8 hd8; have G8 := Lib.hid (Gz.growM Gb.out M (by dsimp only; rw [HLZ.out, HDL.out]; exact hr8) hd8); clear hr8 hd8 Gb HRm HBb))
              go_roundw
              case rel => exact ⟨k + 1, dl ++ [M], A6, c6, lb6, A8, c8, mb8, by omega, by go_num, rfl, rfl, by rw [List.length_append, HDL.out]; rfl, G8⟩
              case measure => simp [intOf]; omega
            · obtain rfl : k = 100 := by omega
              have dk : decide (((100 : Nat) : Int) < 100) = false := decide_eq_false (by omega)
              have HDLx := Lib.hid hdl
              clear hdl hk
              have hdl100 := HDLx.out
              have hF0 : Fr (fun k => zb = some k) wS wr := GZ.out.fr
              have hzne : ∀ k, zb = some k → k ≠ hb ∧ ro' ≠ some k ∧ rw' ≠ some k := fun k hk => ⟨fun e => by subst e; exact (HZT.out k hk).ne HB1.out.bt (by decide) rfl, fun e => (HZT.out k hk).ne (HB2.out.bt e) (by decide) rfl, fun e => (HZT.out k hk).ne (HB3.out.bt e) (by decide) rfl⟩
              have hk0 := HB1.out.fr hF0 (fun q => (hzne hb q).1 rfl)
              have ho0 := HB2.out.fr hF0 (fun k hk q => (hzne k q).2.1 hk)
              have hw0 := HB3.out.fr hF0 (fun k hk q => (hzne k q).2.2 hk)
              obtain ⟨w1, hw1⟩ : ∃ w1, wr.alloc (.cells #[.slice lA (L + 100) lc] 22 (0, 0)) = w1 := ⟨_, rfl⟩
              have hF1 : Fr No wr w1 := by rw [← hw1]; exact (Fr.refl _ _).alloc _
              have HNEW := Lib.hid (fun (_ : 0 < 1) => show ∃ ad, some (⟨wr.heap.size, 0, none⟩ : Addr) = some ad ∧ ∀ (j : Nat) (u : Value), [Value.slice lA (L + 100) lc][j]? = some u → w1.cell? (ad.add j) = some u from
                ⟨_, rfl, fun j u hj => by rw [add0, ← hw1]; exact ((Bk.new wr 22 [Value.slice lA (L + 100) lc]).cell j).trans hj⟩)
              have HR1 := Lib.hid (ho0.fr hF1 (fun _ _ q => q))
              have HW1 := Lib.hid (hw0.fr hF1 (fun _ _ q => q))
              have HK1 := Lib.hid (hk0.fr hF1 id)
              have G1 := Lib.hid (GZ.out.quiet hF1)
              have HF01 := Lib.hid (hF0.trans hF1 (fun _ _ q => q.elim))
              have HNE := Lib.hid (show ¬ (ro' = some hb) from fun q => (ho0.bt q).ne hk0.bt (by decide) rfl)
              have HNW := Lib.hid (show ¬ (rw' = some hb) from fun q => (hw0.bt q).ne hk0.bt (by decide) rfl)
              have HZN := Lib.hid hzne
              obtain ⟨y0, y1, yf⟩ := hk0.two
              clear hF0 hzne hk0 ho0 hw0 hF1 GZ hdl100
              go_upto_region 25 with (at_builtin; refine wl_append _ rfl (.tmp 106) (.tmp 108) 45 rfl 22 _ 1 24 Tryd.underlying45 infoBys rfl (by decide) ro' _ (n + i) (os'.map HL.v) rfl HR1.out (some ⟨wr.heap.size, 0, none⟩) 1 1 [Value.slice lA (L + 100) lc] rfl rfl HNEW.out (by simp [Value.oneCell']) (by unfold maxLen; omega) (by omega) ?_; intro A2 c2 w2 ro2 hrow2 hF2 hnb2; obtain ⟨z0, z1, zf⟩ := (HK1.out.fr hF2 HNE.out).two)
              have hF3 : Fr (fun k => k = hb) w2 (w2.setCell ⟨hb, 0, none⟩ (.slice A2 (n + i + 1) c2)) := (Fr.refl (fun k => k = hb) w2).set (p := ⟨hb, 0, none⟩) (.inl rfl) _
              have hk2 := HK1.out.fr hF2 HNE.out
              have hk3 : Bk (w2.setCell ⟨hb, 0, none⟩ (.slice A2 (n + i + 1) c2)) hb 56 [.slice A2 (n + i + 1) c2, .slice (some ⟨gw, 0, none⟩) (n + i) cw] := hk2.set 0 _
              have hro3 := hrow2.fr hF3 (fun k hk q => by subst q; exact (hrow2.bt hk).ne hk2.bt (by decide) rfl)
              have hrw2 := HW1.out.fr hF2 (fun k hk q => r3 k q hk)
              have hrw3 := hrw2.fr hF3 (fun k hk q => by subst q; exact (hrw2.bt hk).ne hk2.bt (by decide) rfl)
              have HE3 := Lib.hid (show Fr (fun k => k = hb ∨ ro' = some k ∨ rw' = some k) w1 (w2.setCell ⟨hb, 0, none⟩ (.slice A2 (n + i + 1) c2)) from (hF2.mono (S' := fun k => k = hb ∨ ro' = some k ∨ rw' = some k) (fun _ _ q => .inr (.inl q))).trans hF3 (fun _ _ q => .inl q))
              generalize hw3 : w2.setCell ⟨hb, 0, none⟩ (.slice A2 (n + i + 1) c2) = w3 at *
              obtain ⟨w4, hw4⟩ : ∃ w4, w3.alloc (.cells #[.slice mA (L + 100) mc] 22 (0, 0)) = w4 := ⟨_, rfl⟩
              have hF4 : Fr No w3 w4 := by rw [← hw4]; exact (Fr.refl _ _).alloc _
              have HNEW4 := Lib.hid (fun (_ : 0 < 1) => show ∃ ad, some (⟨w3.heap.size, 0, none⟩ : Addr) = some ad ∧ ∀ (j : Nat) (u : Value), [Value.slice mA (L + 100) mc][j]? = some u → w4.cell? (ad.add j) = some u from
                ⟨_, rfl, fun j u hj => by rw [add0, ← hw4]; exact ((Bk.new w3 22 [Value.slice mA (L + 100) mc]).cell j).trans hj⟩)
              have HRO4 := Lib.hid (hro3.fr hF4 (fun _ _ q => q))
              have HRW4 := Lib.hid (hrw3.fr hF4 (fun _ _ q => q))
              have HK4 := Lib.hid (hk3.fr hF4 id)
              have HE4 := Lib.hid (HE3.out.trans hF4 (fun _ _ q => q.elim))
              have HNB2 := Lib.hid hnb2
              obtain ⟨q0, q1, qf⟩ := hk3.two
              clear hF3 hk2 hk3 hro3 hrw2 hrw3 HE3 hw3 hF4 hF2 hrow2 hnb2 z0 z1 zf y0 y1 yf HR1 HW1 HK1 HNEW hw1
              go_wp2_with (at_builtin; refine wl_append _ rfl (.tmp 116) (.tmp 118) 45 rfl 22 _ 1 24 Tryd.underlying45 infoBys rfl (by decide) rw' _ (n + i) (ws'.map HL.v) rfl HRW4.out (some ⟨w3.heap.size, 0, none⟩) 1 1 [Value.slice mA (L + 100) mc] rfl rfl HNEW4.out (by simp [Value.oneCell']) (by unfold maxLen; omega) (by omega) ?_; intro A5 c5 w5 rw5 hrow5 hF5 hnb5; obtain ⟨p0, p1, pf⟩ := (HK4.out.fr hF5 HNW.out).two)
              have hk5 := HK4.out.fr hF5 HNW.out
              have hF6 : Fr (fun k => k = hb) w5 (w5.setCell ⟨hb, 1, none⟩ (.slice A5 (n + i + 1) c5)) := (Fr.refl (fun k => k = hb) w5).set (p := ⟨hb, 1, none⟩) (.inl rfl) _
              have hk6 : Bk (w5.setCell ⟨hb, 1, none⟩ (.slice A5 (n + i + 1) c5)) hb 56 [.slice A2 (n + i + 1) c2, .slice A5 (n + i + 1) c5] := hk5.set 1 _
              have hs0 := HF01.out.size
              have hs1 := HE4.out.size
              have hrwlt : ∀ k, rw' = some k → k < w1.heap.size := fun k hk => by
                have := (HB3.out.bt hk).lt
                omega
              have hron : ∀ k, ro2 = some k → B ≤ k ∧ rw' ≠ some k := fun k hk => by
                rcases HNB2.out with q | ⟨q', q, hq⟩
                · rw [q] at hk
                  exact ⟨r1 k hk, r3 k hk⟩
                · rw [q] at hk
                  cases hk
                  have := HF.out.size
                  have := HBW.out
                  exact ⟨by omega, fun e => by have := hrwlt k e; omega⟩
              have hrwn : ∀ k, rw5 = some k → B ≤ k ∧ ro2 ≠ some k := fun k hk => by
                rcases hnb5 with q | ⟨q', q, hq⟩
                · rw [q] at hk
                  exact ⟨r2 k hk, fun e => (hron k e).2 hk⟩
                · rw [q] at hk
                  cases hk
                  have := HF.out.size
                  have := HBW.out
                  exact ⟨by omega, fun e => by have := (HRO4.out.bt e).lt; omega⟩
              have hro5 := HRO4.out.fr hF5 (fun k hk q => (hron k hk).2 q)
              have hro6 := hro5.fr hF6 (fun k hk q => by subst q; exact (hro5.bt hk).ne hk5.bt (by decide) rfl)
              have hrw6 := hrow5.fr hF6 (fun k hk q => by subst q; exact (hrow5.bt hk).ne hk5.bt (by decide) rfl)
              have hE6 := (HE4.out.trans hF5 (fun _ _ q => .inr (.inr q))).trans hF6 (fun _ _ q => .inl q)
              generalize hw6 : w5.setCell ⟨hb, 1, none⟩ (.slice A5 (n + i + 1) c5) = w6 at *
              have hl1 := G1.out.l
              have hm1' := G1.out.m
              have tH : BT w1 hb 56 := HB1.out.bt.fr HF01.out (fun q => (HZN.out hb q).1 rfl)
              have tO : ∀ k, ro' = some k → BT w1 k 22 := fun k hk => (HB2.out.bt hk).fr HF01.out (fun q => (HZN.out k q).2.1 hk)
              have tW : ∀ k, rw' = some k → BT w1 k 22 := fun k hk => (HB3.out.bt hk).fr HF01.out (fun q => (HZN.out k q).2.2 hk)
              have out8 : ∀ k, BT w1 k 5 → ¬ (k = hb ∨ ro' = some k ∨ rw' = some k) := fun k hk q => by
                rcases q with rfl | q | q
                · exact hk.ne tH (by decide) rfl
                · exact hk.ne (tO k q) (by decide) rfl
                · exact hk.ne (tW k q) (by decide) rfl
              have hl6 := hl1.fr hE6 (fun k hk => out8 k (hl1.bt hk))
              have hm6 := hm1'.fr hE6 (fun k hk => out8 k (hm1'.bt hk))
              have hz6 := zr_fr (z := ⟨zA, zc, zb, zd⟩) G1.out.zr hE6 (fun k hk q => by
                rcases q with rfl | q | q
                · exact (HZN.out _ hk).1 rfl
                · exact (HZN.out _ hk).2.1 q
                · exact (HZN.out _ hk).2.2 q)
              have hS6 : Fr (fun k => zb = some k ∨ k = hb ∨ ro' = some k ∨ rw' = some k) wS w6 := (HF01.out.mono (S' := fun k => zb = some k ∨ k = hb ∨ ro' = some k ∨ rw' = some k) (fun _ _ q => .inl q)).trans hE6 (fun _ _ q => .inr q)
              have hlen : (zd ++ dl).length = L + 100 := by rw [List.length_append, HDLx.out]; have := HLZ.out; omega
              have hlen0 : zd.length = L := HLZ.out
              have hlv : ([⟨lA, lc, lb, zd ++ dl⟩] : List HL).map HL.v = [Value.slice lA (L + 100) lc] := by
                show [Value.slice lA (zd ++ dl).length lc] = _
                rw [hlen]
              have hmv : ([⟨mA, mc, mb, zd ++ dl⟩] : List HL).map HL.v = [Value.slice mA (L + 100) mc] := by
                show [Value.slice mA (zd ++ dl).length mc] = _
                rw [hlen]
              have hG := G.out.next (w1 := w6) ⟨zA, zc, zb, zd⟩ ⟨lA, lc, lb, zd ++ dl⟩ ⟨mA, mc, mb, zd ++ dl⟩ HZ.out hS6 (fun k q hk => by
                  rcases q with q | rfl | q | q
                  · exact q
                  · exact absurd rfl (hk.ne HB1.out.bt (by decide))
                  · exact absurd rfl (hk.ne (HB2.out.bt q) (by decide))
                  · exact absurd rfl (hk.ne (HB3.out.bt q) (by decide))) ro2 rw5 (.slice A2 (n + i + 1) c2) (.slice A5 (n + i + 1) c5) hk6 (by rw [List.length_append, hol, List.map_append, hlv]; exact hro6) (by rw [List.length_append, hwl, List.map_append, hmv]; exact hrw6)
                  (fun k hk => (hron k hk).1) (fun k hk => (hrwn k hk).1) (fun k hk e => (hrwn k e).2 hk) rfl hz6 (by
                    show Row w6 5 1 lb (.slice lA (zd ++ dl).length lc) (zd ++ dl).length (bv (zd ++ dl))
                    rw [List.length_append]; exact hl6) (by
                    show Row w6 5 1 mb (.slice mA (zd ++ dl).length mc) (zd ++ dl).length (bv (zd ++ dl))
                    rw [List.length_append]; exact hm6) (fun k hk => by
                    rcases G1.out.lz with e | ⟨k', e, hk'⟩
                    · exact .inl (e ▸ hk)
                    · have : k' = k := by have hk2 : lb = some k := hk; rw [e] at hk2; exact Option.some.inj hk2
                      exact .inr (by omega)) (fun k hk => (G1.out.mz k hk).1) (by have := HF.out.size; have := HBW.out; omega)
              have HG6 := Lib.hid hG
              have HL6 := Lib.hid (show ∀ x ∈ os' ++ [⟨lA, lc, lb, zd ++ dl⟩], x.d.length ≤ 140737488355100 from fun x hx => by
                rcases List.mem_append.1 hx with hx | hx
                · exact HLB.out x hx
                · rw [List.mem_singleton.1 hx]
                  dsimp only
                  omega)
              have HF6 := Lib.hid (HF.out.trans hS6 (fun k hk q => by
                rcases q with q | rfl | q | q
                · exact G.out.xn i _ HZ.out k q
                · exact G.out.hbn
                · exact r1 k q
                · exact r2 k q))
              go_roundw
              case rel => exact ⟨i + 1, _, _, by omega, by go_num, by rw [List.length_append, hol]; rfl, HG6, HL6, HF6⟩
              case measure => simp [intOf]; omega
        · obtain rfl : i = n := by omega
          have di2 : decide ((i : Int) < (i : Int)) = false := decide_eq_false (by omega)
          have HHP := Lib.hid (holds B wS hb os' ws' G.out.read (by omega) (fun x hx => by have := HLB.out x hx; omega))
          go_wp2_with fail
          refine HHP.out.mono ?_
          rintro e w9 ⟨rfl, hF9⟩
          have HR9 := Lib.hid (G.out.read.fr hF9 (fun _ q => q.elim))
          have HF9 := Lib.hid (HF.out.trans hF9 (fun _ _ q => q.elim))
          clear hF9
          go_wp2
          go_ret
          exact ⟨rfl, os', ws', HR9.out, by omega, HLB.out, HF9.out⟩
end Go.Proofs.YtfpjdgkooikeoaaDoor.Sl
