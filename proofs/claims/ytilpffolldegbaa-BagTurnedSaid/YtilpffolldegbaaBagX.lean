/- The law BagTurned: its walk. Conditions: none. -/
import Derived.Test.YtilpffolldegbaaBagW
import Derived.Deep.DeepCutAuto
namespace Go.Proofs.Ytilpffolldegbaa.Bg
open Go.RowKit Go.Proofs.Ytilpffolldegbaa.Mem
set_option linter.unusedVariables false
set_option linter.unusedSimpArgs false

def SrcC (w : World) (d : List UInt8) (v : Value) : Prop := ∃ A c, v = .slice A d.length c ∧ d.length ≤ c ∧ BR (T8 5 No w) w A d
/-- a slice of sources that has a row of its own -/
def SR (w : World) (rb : Option Nat) (v : Value) (ds : List (List UInt8)) : Prop := ∃ vs : List Value, Row w 51 1 rb v ds.length vs ∧ All2 (SrcC w) ds vs
section
variable {S : Nat → Prop} {w w1 : World} {rb : Option Nat} {v : Value} {ds : List (List UInt8)}
theorem SrcC.fr {d : List UInt8} {v : Value} (h : SrcC w d v) (hf : Fr S w w1) (hn : ∀ k, S k → BT w k 5 → No k) : SrcC w1 d v := by
  obtain ⟨A, c, e, hl, hb⟩ := h
  exact ⟨A, c, e, hl, hb.frT hf hn⟩
theorem SR.fr (h : SR w rb v ds) (hf : Fr S w w1) (hr : ∀ k, rb = some k → ¬ S k) (hn : ∀ k, S k → BT w k 5 → No k) : SR w1 rb v ds := by
  obtain ⟨vs, h1, h2⟩ := h
  exact ⟨vs, h1.fr hf hr, h2.imp (fun _ _ q => q.fr hf hn)⟩
theorem SR.fr0 (h : SR w rb v ds) (hf : Fr No w w1) : SR w1 rb v ds := h.fr hf (fun _ _ q => q) (fun _ q => q.elim)
theorem SR.push {w2 : World} {vs : List Value} {rb2 : Option Nat} {A : Option Addr} {c : Nat} {d : List UInt8} {u : Value} (h1 : Row w 51 1 rb v ds.length vs) (h2 : All2 (SrcC w) ds vs) (hu : SrcC w d u) (hf : Fr (fun k => rb = some k) w w2) (hr : Row w2 51 1 rb2 (.slice A (ds.length + 1) c) (ds.length + 1) (vs ++ [u])) : SR w2 rb2 (.slice A (ds ++ [d]).length c) (ds ++ [d]) := by
  have hn : ∀ k, rb = some k → BT w k 5 → No k := fun k hk h8 => absurd rfl ((h1.bt hk).ne h8 (by decide))
  rw [List.length_append]
  exact ⟨vs ++ [u], by rw [List.length_append]; exact hr, (h2.imp (fun _ _ q => q.fr hf hn)).append (All2.one (hu.fr hf hn))⟩
theorem SR.at_ (h : SR w rb v ds) (i : Nat) {d : List UInt8} (hi : ds[i]? = some d) : ∃ r c A cap, rb = some r ∧ v = .slice (some ⟨r, 0, none⟩) ds.length c ∧ ds.length ≤ c ∧ d.length ≤ cap ∧ BR (T8 5 No w) w A d ∧ w.cell? ⟨r, i, none⟩ = some (.slice A d.length cap) ∧ (∀ j, w.frozen? ⟨r, j, none⟩ = false) := by
  obtain ⟨vs, h1, h2⟩ := h
  have hlt : i < ds.length := (List.getElem?_eq_some_iff.1 hi).1
  obtain ⟨r, c, hr, hv, hc, hcell, hfr⟩ := h1.at_ (by omega)
  obtain ⟨u, hu, A, cap, rfl, hl, hb⟩ := h2.at_ i hlt
  have : ds[i] = d := (List.getElem?_eq_some_iff.1 hi).2
  rw [this] at hl hb hu
  exact ⟨r, c, A, cap, hr, hv, hc, hl, hb, hcell _ _ hu, hfr⟩
end
theorem infoSrc : (Try.prog.info? 51).map (fun i => (i.zero, i.size, i.bytes)) = some (some (.agg #[.slice none 0 0]), 1, 24) := by kernel_rfl
theorem grow_small {s : St} {ds : List (List UInt8)} {o : OpV} {e : Int} (h : ∀ d ∈ ds, d.length ≤ 140737488355328) (hi : TInv s ds) (hs : Small s) (ho : o.data.length ≤ 140737488355328) : ∀ d ∈ tgrow ds (tnew s ds o e), d.length ≤ 140737488355328 := by
  intro d hd
  unfold tgrow tnew at hd
  split at hd
  · rename_i x hx
    rcases List.mem_append.1 hd with hd | hd
    · exact h d hd
    · simp at hd
      subst hd
      split at hx
      · exact Option.some.inj hx ▸ ho
      · split at hx
        · have := Option.some.inj hx
          subst this
          cases hp : s.ps[o.a.toNat]?.bind fun p => ds[(p.num - 1).toNat]? with
          | none => simp
          | some q =>
            rw [Option.getD_some]
            obtain ⟨p, _, hq⟩ := Option.bind_eq_some_iff.1 hp
            exact h q (List.mem_of_getElem? hq)
        · cases hx
  · exact h d hd
theorem tnew_zero {s : St} {ds : List (List UInt8)} {o : OpV} {e : Int} (h : ¬ (e = 0 ∧ (o.kind = 0 ∨ o.kind = 2))) : tnew s ds o e = none := by
  unfold tnew
  rw [if_neg (fun q => h ⟨q.1, .inl q.2⟩), if_neg (fun q => h ⟨q.1, .inr q.2⟩)]
set_option maxHeartbeats 4000000 in
set_option maxRecDepth 100000 in
theorem turned_walk (room : Int) (A : Option Addr) (c : Nat) (l : List OpV) (w : World) (hA : OR w A l) (hl : l.length ≤ 4611686018427387904) (hd : ∀ o ∈ l, o.data.length ≤ 140737488355328) :
    Calls Try.prog 4 #[.int .i64 room, .slice A l.length c] w fun e w' => e = .returned (.bool true) ∧ Fr No w w' := by
  have HA := Lib.hid hA
  have HD := Lib.hid hd
  have HBY := Lib.hid (beyond1 A c l w hA hl hd)
  have HLT := Lib.hid (tot_len l)
  obtain ⟨m, hm⟩ : ∃ m, l.length = m := ⟨_, rfl⟩
  have HM := Lib.hid hm
  rw [hm] at HBY hl ⊢
  clear hA hd hm
  by_cases hbig : 2147483647 < tot l
  · rw [decide_eq_true hbig] at HBY
    go_enter Try.func4, Try.ntmps4
    go_wp2_with fail
    refine HBY.out.mono ?_
    rintro e w1 ⟨rfl, rfl⟩
    go_wp2
    go_ret
    exact ⟨rfl, Fr.refl _ _⟩
  rw [decide_eq_false hbig] at HBY
  have hmb : m ≤ 2147483647 := by have := HLT.out; rw [HM.out] at this; omega
  clear hbig
  by_cases hroom : room < 1 ∨ 1024 < room
  · have HN := Lib.hid (fun W => bNew_no room W hroom)
    rcases hroom with hr | hr
    · have d1 : decide (room < 1) = true := decide_eq_true hr
      go_enter Try.func4, Try.ntmps4
      go_wp2_with fail
      refine HBY.out.mono ?_
      rintro e w1 ⟨rfl, rfl⟩
      go_wp2_with fail
      refine (shown _).mono ?_
      rintro e w2 ⟨rfl, hF2⟩
      go_wp2_with fail
      refine (HN.out _).mono ?_
      rintro e w3 ⟨rfl, rfl⟩
      go_wp2
      go_ret
      exact ⟨rfl, hF2⟩
    · have d1 : decide (room < 1) = false := decide_eq_false (by omega)
      have d2 : decide (1024 < room) = true := decide_eq_true hr
      go_enter Try.func4, Try.ntmps4
      go_wp2_with fail
      refine HBY.out.mono ?_
      rintro e w1 ⟨rfl, rfl⟩
      go_wp2_with fail
      refine (shown _).mono ?_
      rintro e w2 ⟨rfl, hF2⟩
      go_wp2_with fail
      refine (HN.out _).mono ?_
      rintro e w3 ⟨rfl, rfl⟩
      go_wp2
      go_ret
      exact ⟨rfl, hF2⟩
  · have hr0 : 1 ≤ room := by omega
    have hr1 : room ≤ 1024 := by omega
    have d1 : decide (room < 1) = false := decide_eq_false (by omega)
    have d2 : decide (1024 < room) = false := decide_eq_false (by omega)
    clear hroom
    go_enter Try.func4, Try.ntmps4
    go_wp2_with fail
    refine HBY.out.mono ?_
    rintro e w1 ⟨rfl, rfl⟩
    go_wp2_with fail
    refine (shown _).mono ?_
    rintro e w2 ⟨rfl, hF2⟩
    have HF2 := Lib.hid hF2
    clear hF2
    go_wp2_with fail
    refine (bNew No room w2 hr0 hr1).mono ?_
    rintro e w3 ⟨rfl, hB3, hF3⟩
    have M3 := Lib.hid ((Mine.new hB3 hF3 HF2.out).quiet ((Fr.refl No w3).alloc (.cells #[] 51 (0, 0))))
    obtain ⟨g, hg⟩ : ∃ g, w2.heap.size = g := ⟨_, rfl⟩
    rw [hg] at M3 ⊢
    have HR3 := Lib.hid (show SR (w3.alloc (.cells #[] 51 (0, 0))) none (.slice (some ⟨w3.heap.size, 0, none⟩) 0 0) [] from ⟨[], Row.no _ _ _ _, All2.nil⟩)
    have HI3 := Lib.hid (TInv.init room)
    have HO3 := Lib.hid (show Okk 0 ⟨room, 0, []⟩ from ⟨hr0, hr1, by simp; omega, by simp, by simp, fun p hp => by cases hp⟩)
    clear hB3 hF3 hg
    go_wp2
    go_loopw [7, 8] (fun fr i wr => ∃ (k : Nat) (s : St) (ds : List (List UInt8)) (rb rbb : Option Nat) (A' : Option Addr) (c' : Nat), k ≤ m ∧ i = .int .i64 k ∧ fr = .slice A' ds.length c' ∧ ds.length ≤ k ∧
      Hid (Mine No w1 wr g rb s) ∧ Hid (SR wr rbb (.slice A' ds.length c') ds) ∧ Hid (∀ q, rbb = some q → w1.heap.size ≤ q) ∧ Hid (TInv s ds) ∧ Hid (∀ d ∈ ds, d.length ≤ 140737488355328) ∧ Hid (Okk (k : Int) s)) (fun _ i _ => m - (intOf i).toNat)
    case atStart => exact ⟨0, ⟨room, 0, []⟩, [], none, none, some ⟨w3.heap.size, 0, none⟩, 0, Nat.zero_le _, rfl, rfl, Nat.le_refl _, M3, HR3, (fun q h => by cases h), HI3, (fun d h => by cases h), HO3⟩
    case round =>
      clear M3 HR3 HI3 HO3
      obtain ⟨k, s, ds, rb, rbb, A', c', hk, rfl, rfl, hcl, M, HR, HRB, HI, HDS, HO⟩ := hrel
      obtain ⟨n, hn⟩ : ∃ n, ds.length = n := ⟨_, rfl⟩
      have HNL := Lib.hid hn
      rw [hn] at HR hcl ⊢
      clear hn
      by_cases hlt : k < m
      · have hkl : k < l.length := by rw [HM.out]; exact hlt
        obtain ⟨ad, Ad, cap, rfl, hlc, hbr, e0, e1, e2, e3, e4, e5⟩ := HA.out k l[k] (List.getElem?_eq_getElem hkl)
        have x0 := cell_fr M.out.fr e0
        have x1 := cell_fr M.out.fr e1
        have x2 := cell_fr M.out.fr e2
        have x3 := cell_fr M.out.fr e3
        have x4 := cell_fr M.out.fr e4
        have x5 := cell_fr M.out.fr e5
        clear e0 e1 e2 e3 e4 e5
        have HBRF := Lib.hid (fun W (h : Fr No w1 W) => hbr.fr h (fun _ _ _ q => q))
        have hki : (k : Int) < (m : Int) := by omega
        have hdl := HD.out l[k] (List.getElem_mem _)
        generalize l[k] = o at *
        obtain ⟨w4, hw4⟩ : ∃ w4, wr.alloc (.cells #[.bool o.second, .int .i64 o.kind, .int .i64 o.a, .int .i64 o.b, .int .i64 o.y, .slice Ad o.data.length cap] 44 (0, 0)) = w4 := ⟨_, rfl⟩
        have hF4 : Fr No wr w4 := by rw [← hw4]; exact (Fr.refl _ _).alloc _
        have HX := Lib.hid (show Bk w4 wr.heap.size 44 [.bool o.second, .int .i64 o.kind, .int .i64 o.a, .int .i64 o.b, .int .i64 o.y, .slice Ad o.data.length cap] by rw [← hw4]; exact Bk.new _ _ _)
        have HXS := Lib.hid (show ¬ Sg g rb wr.heap.size from fun h => Nat.lt_irrefl _ (M.out.bag.sgl _ h))
        have M4 := Lib.hid (M.out.quiet hF4)
        have HR4 := Lib.hid (HR.out.fr0 hF4)
        have HLI := Lib.hid (bList (H := No) (s := s) w4 M4.out.bag (by have := HO.out.lenN; omega) HO.out.small (fun _ _ q => q))
        obtain ⟨pn, hpn⟩ : ∃ pn, s.ps.length = pn := ⟨_, rfl⟩
        have HPN := Lib.hid hpn
        rw [hpn] at HLI
        obtain ⟨X, hX⟩ : ∃ X, wr.heap.size = X := ⟨_, rfl⟩
        have HXE := Lib.hid hX
        rw [hX] at HX HXS
        have HW4 := Lib.hid hw4
        clear hbr hw4 hF4 M HR hpn hX
        go_wp2_with fail
        rw [HW4.out, HXE.out]
        refine HLI.out.mono ?_
        rintro e w5 ⟨A1, c1, rbl, rfl, hpl, hF5, hrbl⟩
        have M5 := Lib.hid (M4.out.quiet hF5)
        have HR5 := Lib.hid (HR4.out.fr0 hF5)
        have HX5 := Lib.hid (HX.out.fr hF5 id)
        have HLS := Lib.hid (show ∀ q, rbl = some q → ¬ Sg g rb q from fun q hq hs => by have h1 := hrbl q hq; have h2 := M4.out.bag.sgl q hs; omega)
        have HPL5 := Lib.hid hpl
        have HDL := Lib.hid hdl
        obtain ⟨z, hz⟩ : ∃ z, oneS s o = z := ⟨_, rfl⟩
        have HONE := Lib.hid (one (H := No) o Ad cap w5 (HBRF.out w5 M5.out.fr) hdl (fun _ _ q => q) M5.out.bag HO.out (by omega))
        have HT1 := Lib.hid (one_t HI.out o)
        have HO1 := Lib.hid (one_ok HO.out (by omega) o hdl)
        rw [hz] at HONE HT1 HO1
        obtain ⟨z1, z2⟩ := z
        dsimp only at HONE HT1 HO1
        unfold OpV.cells at HONE
        obtain ⟨dl, hdle⟩ : ∃ dl, o.data.length = dl := ⟨_, rfl⟩
        have HDE := Lib.hid hdle
        rw [hdle] at HONE HX5 hdl
        obtain ⟨y0, y1, y2, y3, y4, y5, yf⟩ := HX5.out.six
        have HSD := Lib.hid (show Small s from HO.out.small)
        clear hpl hF5 hrbl hz hdle M4 HR4 HX HLI HW4 x0 x1 x2 x3 x4 x5 hlc HXE
        go_wp2_with fail
        refine HONE.out.mono ?_
        rintro e w6 ⟨rb', rfl, hB6, hF6, hn6⟩
        have M6 := Lib.hid (M5.out.step hB6 hF6 hn6)
        have HX6 := Lib.hid (HX5.out.fr hF6 HXS.out)
        have HPL6 := Lib.hid (HPL5.out.fr hF6 HLS.out M5.out.bag.sg)
        have HR6 := Lib.hid (HR5.out.fr hF6 (by obtain ⟨vs, hvs, _⟩ := HR5.out; exact M5.out.rowfr hvs (by decide) (by decide)) M5.out.bag.sg)
        have HLA := Lib.hid (bList (H := No) (s := z1) w6 M6.out.bag (by have := HO1.out.lenN; omega) HO1.out.small (fun _ _ q => q))
        obtain ⟨pm, hpm⟩ : ∃ pm, z1.ps.length = pm := ⟨_, rfl⟩
        have HPM := Lib.hid hpm
        rw [hpm] at HLA
        clear hB6 hF6 hn6 M5 HX5 HPL5 HR5 HLS HXS HONE hpm y0 y1 y2 y3 y4 y5 yf
        go_wp2_with fail
        refine HLA.out.mono ?_
        rintro e w7 ⟨A2, c2, rbl2, rfl, hpa, hF7, hrbl2⟩
        have M7 := Lib.hid (M6.out.quiet hF7)
        have HX7 := Lib.hid (HX6.out.fr hF7 id)
        have HPL7 := Lib.hid (HPL6.out.fr hF7 (fun _ _ q => q) (fun _ q => q.elim))
        have HPA7 := Lib.hid hpa
        have HR7 := Lib.hid (HR6.out.fr0 hF7)
        clear hpa hF7 hrbl2 M6 HX6 HPL6 HR6 HLA
        go_upto_region 18 with (fail)
        go_cut [65] (fun t wx => t = .bool false ∧ Hid (Fr No w7 wx))
        case first =>
          by_cases hz : z2 = 0
          · have bz : (z2 == 0) = true := by simpa using hz
            go_wp2
            go_meet
            exact ⟨rfl, Fr.refl _ _⟩
          · have bz : (z2 == 0) = false := by simpa using hz
            obtain rfl : z1 = s := HT1.out.1 hz
            obtain rfl : pm = pn := HPM.out.symm.trans HPN.out
            have HSP := Lib.hid (samePackets (H := No) (K := No) (ra := rbl) (rb := rbl2) z1.ps A1 A2 c1 c2 w7 (by rw [HPN.out]; exact HPL7.out) (by rw [HPN.out]; exact HPA7.out) HSD.out)
            rw [HPN.out] at HSP
            go_wp2_with fail
            refine HSP.out.mono ?_
            rintro e w8 ⟨rfl, hF8⟩
            go_wp2
            go_meet
            exact ⟨rfl, hF8⟩
        case rest =>
          obtain ⟨rfl, HF8⟩ := hcut
          obtain ⟨w8, rfl⟩ : ∃ w8, w8 = wc := ⟨_, rfl⟩
          have M8 := Lib.hid (M7.out.quiet HF8.out)
          have HX8 := Lib.hid (HX7.out.fr HF8.out id)
          have HPL8 := Lib.hid (HPL7.out.fr HF8.out (fun _ _ q => q) (fun _ q => q.elim))
          have HPA8 := Lib.hid (HPA7.out.fr HF8.out (fun _ _ q => q) (fun _ q => q.elim))
          have HR8 := Lib.hid (HR7.out.fr0 HF8.out)
          clear M7 HX7 HPL7 HPA7 HR7 HF8
          go_upto_region 20 with (fail)
          obtain ⟨y0, y1, y2, y3, y4, y5, yf⟩ := HX8.out.six
          go_cut [72] (fun t wx => t = .bool (decide (z2 = 0 ∧ o.kind = 0)) ∧ w8 = wx)
          case first =>
            by_cases hz : z2 = 0
            · have bz : (z2 == 0) = true := by simpa using hz
              have HK := Lib.hid (show decide (z2 = 0 ∧ o.kind = 0) = (o.kind == 0) by simp [hz]; rfl)
              go_wp2
              go_meet
              exact ⟨congrArg Value.bool HK.out.symm, rfl⟩
            · have bz : (z2 == 0) = false := by simpa using hz
              have HK := Lib.hid (show decide (z2 = 0 ∧ o.kind = 0) = false by simp [hz])
              go_wp2
              go_meet
              exact ⟨congrArg Value.bool HK.out.symm, rfl⟩
          case rest =>
            obtain ⟨rfl, rfl⟩ := hcut
            go_upto_if 72 with (fail)
            go_cut [7] (fun fr wx => ∃ (ds' : List (List UInt8)) (A3 : Option Addr) (c3 : Nat) (rb3 : Option Nat), fr = .slice A3 ds'.length c3 ∧ ds'.length ≤ k + 1 ∧ Hid (ds' = if z2 = 0 ∧ o.kind = 0 then ds ++ [o.data] else ds) ∧ Hid (SR wx rb3 (.slice A3 ds'.length c3) ds') ∧ Hid (∀ q, rb3 = some q → w1.heap.size ≤ q) ∧ Hid (Mine No w1 wx g rb' z1) ∧ Hid (PR No wx rbl (.slice A1 pn c1) s.ps) ∧ Hid (PR No wx rbl2 (.slice A2 pm c2) z1.ps) ∧
              Hid (Bk wx X 44 [.bool o.second, .int .i64 o.kind, .int .i64 o.a, .int .i64 o.b, .int .i64 o.y, .slice Ad dl cap]))
            case first =>
              by_cases hz : z2 = 0 ∧ o.kind = 0
              · have hd : decide (z2 = 0 ∧ o.kind = 0) = true := decide_eq_true hz
                rw [hd]
                clear hd
                have HCO := Lib.hid (copiedL Ad dl cap o.data w8 HDE.out (by omega) (HBRF.out w8 M8.out.fr))
                go_wp2_with fail
                refine HCO.out.mono ?_
                rintro e w9 ⟨A4, c4, rb4, rfl, hro4, hF9, hrb4⟩
                have hF10 : Fr No w8 (w9.alloc (.cells #[.slice A4 dl c4] 51 (0, 0))) := hF9.alloc _
                have HSC := Lib.hid (show SrcC (w9.alloc (.cells #[.slice A4 dl c4] 51 (0, 0))) o.data (.slice A4 dl c4) from by
                  obtain ⟨Aq, cq, hv, hle⟩ := hro4.val
                  injection hv with e1 e2 e3
                  subst e1 e3
                  refine ⟨A4, c4, by rw [HDE.out], by rw [HDE.out]; exact hle, ?_⟩
                  exact ((Row.br (D := T8 5 No w9) hro4 (fun q hq => ⟨hro4.bt hq, id⟩)).frT ((Fr.refl No w9).alloc _) (fun _ q => q.elim)))
                obtain ⟨vs, hvs, hal⟩ := HR8.out.fr0 hF10
                rw [HNL.out] at hvs
                have HVS := Lib.hid hvs
                have HAL := Lib.hid hal
                have M10 := Lib.hid (M8.out.quiet hF10)
                have HX10 := Lib.hid (HX8.out.fr hF10 id)
                have HPL10 := Lib.hid (HPL8.out.fr hF10 (fun _ _ q => q) (fun _ q => q.elim))
                have HPA10 := Lib.hid (HPA8.out.fr hF10 (fun _ _ q => q) (fun _ q => q.elim))
                have HNEW := Lib.hid (fun (_ : 0 < 1) => show ∃ ad, some (⟨w9.heap.size, 0, none⟩ : Addr) = some ad ∧ ∀ (j : Nat) (u : Value), [Value.slice A4 dl c4][j]? = some u → (w9.alloc (.cells #[.slice A4 dl c4] 51 (0, 0))).cell? (ad.add j) = some u from
                  ⟨_, rfl, fun j u hj => by rw [add0]; exact ((Bk.new w9 51 [Value.slice A4 dl c4]).cell j).trans hj⟩)
                have hnb : n + 1 ≤ 2147483648 := by omega
                have HZ := Lib.hid hz
                clear hro4 hF9 hrb4 hvs hal hF10 hz M8 HX8 HPL8 HPA8 HR8 HCO
                go_wp2_with (at_builtin; refine wl_append _ rfl (.tmp 73) (.tmp 78) 42 rfl 51 _ 1 24 Try.underlying42 infoSrc rfl (by decide) rbb _ n vs rfl HVS.out (some ⟨w9.heap.size, 0, none⟩) 1 1 [Value.slice A4 dl c4] rfl rfl HNEW.out (by simp [Value.oneCell']) (by unfold maxLen; omega) (by omega) ?_; intro A6 c6 w6 rb6 hrow6 hF7 hnb6)
                have HF7 := Lib.hid hF7
                have HR11 := Lib.hid (SR.push (by rw [HNL.out]; exact HVS.out) HAL.out HSC.out HF7.out (by rw [HNL.out]; exact hrow6))
                have HRB11 : Hid (∀ q, rb6 = some q → w1.heap.size ≤ q) := fun q hq => by
                  rcases hnb6 with h | ⟨q', h, hle⟩
                  · exact HRB.out q (by rw [← h]; exact hq)
                  · rw [h] at hq
                    cases hq
                    exact Nat.le_trans M10.out.fr.size hle
                have h8 : ∀ q, rbb = some q → BT (w9.alloc (.cells #[.slice A4 dl c4] 51 (0, 0))) q 5 → No q := fun q hq h8 => absurd rfl ((HVS.out.bt hq).ne h8 (by decide))
                have hpk : ∀ r q, rbb = some q → BT (w9.alloc (.cells #[.slice A4 dl c4] 51 (0, 0))) r 31 → r = q → False := fun r q hq hr e => absurd e.symm ((HVS.out.bt hq).ne hr (by decide))
                have M11 := Lib.hid (M10.out.other HVS.out (by decide) (by decide) (by decide) hF7 HRB.out)
                have HX11 := Lib.hid (HX10.out.fr hF7 (fun q => absurd rfl ((HVS.out.bt q).ne HX10.out.bt (by decide))))
                have HPL11 := Lib.hid (HPL10.out.fr hF7 (fun r hr q => hpk r r q (HPL10.out.bt hr) rfl) h8)
                have HPA11 := Lib.hid (HPA10.out.fr hF7 (fun r hr q => hpk r r q (HPA10.out.bt hr) rfl) h8)
                clear hrow6 hF7 hnb6 h8 hpk HF7 M10 HX10 HPL10 HPA10 HVS HAL HSC HNEW
                go_wp2
                go_meet
                exact ⟨ds ++ [o.data], A6, c6, rb6, by rw [List.length_append, HNL.out]; rfl, by rw [List.length_append, HNL.out]; simp; omega, (if_pos HZ.out).symm, HR11, HRB11, M11, HPL11, HPA11, HX11⟩
              · have hd : decide (z2 = 0 ∧ o.kind = 0) = false := decide_eq_false hz
                rw [hd]
                clear hd
                go_wp2
                go_meet
                exact ⟨ds, A', c', rbb, by rw [HNL.out], by rw [HNL.out]; omega, (if_neg hz).symm, by rw [HNL.out]; exact HR8, HRB, M8, HPL8, HPA8, HX8⟩
            case rest =>
              obtain ⟨ds', A3, c3, rb3, rfl, hdl', HDS', HR9, HRB9, M9, HPL9, HPA9, HX9⟩ := hcut
              obtain ⟨w9, rfl⟩ : ∃ w9, w9 = wc := ⟨_, rfl⟩
              go_upto_region 22 with (fail)
              obtain ⟨y0, y1, y2, y3, y4, y5, yf⟩ := HX9.out.six
              go_cut [86] (fun t wx => t = .bool (decide (z2 = 0 ∧ o.kind = 2)) ∧ w9 = wx)
              case first =>
                by_cases hz : z2 = 0
                · have bz : (z2 == 0) = true := by simpa using hz
                  have HK := Lib.hid (show decide (z2 = 0 ∧ o.kind = 2) = (o.kind == 2) by simp [hz]; rfl)
                  go_wp2
                  go_meet
                  exact ⟨congrArg Value.bool HK.out.symm, rfl⟩
                · have bz : (z2 == 0) = false := by simpa using hz
                  have HK := Lib.hid (show decide (z2 = 0 ∧ o.kind = 2) = false by simp [hz])
                  go_wp2
                  go_meet
                  exact ⟨congrArg Value.bool HK.out.symm, rfl⟩
              case rest =>
                obtain ⟨rfl, rfl⟩ := hcut
                clear HX8 HR8 HPL8 HPA8 M8
                obtain ⟨n1, hn1⟩ : ∃ n1, ds'.length = n1 := ⟨_, rfl⟩
                have HN1 := Lib.hid hn1
                rw [hn1] at HR9 hdl' ⊢
                clear hn1
                go_upto_if 86 with (fail)
                go_cut [7] (fun fr wx => ∃ (ds2 : List (List UInt8)) (A4 : Option Addr) (c4 : Nat) (rb4 : Option Nat), fr = .slice A4 ds2.length c4 ∧ ds2.length ≤ k + 1 ∧ Hid (ds2 = tgrow ds (tnew s ds o z2)) ∧ Hid (SR wx rb4 (.slice A4 ds2.length c4) ds2) ∧ Hid (∀ q, rb4 = some q → w1.heap.size ≤ q) ∧ Hid (Mine No w1 wx g rb' z1) ∧ Hid (PR No wx rbl2 (.slice A2 pm c2) z1.ps))
                case first =>
                  by_cases hz : z2 = 0 ∧ o.kind = 2
                  · have hd : decide (z2 = 0 ∧ o.kind = 2) = true := decide_eq_true hz
                    rw [hd]
                    clear hd
                    obtain ⟨k0, p, d, hoa, hp, hp1, hp2, hgd, htn⟩ := HT1.out.2.2 hz
                    have hds : ds' = ds := HDS'.out.trans (if_neg (fun q => by omega))
                    have HTN := Lib.hid (show tgrow ds (tnew s ds o z2) = ds' ++ [d] by rw [htn, hds]; rfl)
                    rw [← hds] at hgd hp2
                    have hk0 : k0 < s.ps.length := (List.getElem?_eq_some_iff.1 hp).1
                    have hpe : s.ps[k0] = p := (List.getElem?_eq_some_iff.1 hp).2
                    obtain ⟨r, c8, A8, cap8, hr, hv, _, hl8, hA8, x0, x1, x2, x3, x4, x5, xf⟩ := HPL9.out.at_ k0 hk0
                    rw [HPN.out] at hv hk0
                    injection hv with e1 _ e3
                    subst e1 e3
                    rw [hpe] at x0
                    obtain ⟨q0, hq0⟩ : ∃ q0 : Nat, p.num = (q0 : Int) + 1 := ⟨(p.num - 1).toNat, by omega⟩
                    rw [show (p.num - 1).toNat = q0 by omega] at hgd
                    rw [HN1.out] at hp2
                    obtain ⟨r9, c9, A9, cap9, hr9, hv9, hle9, hl9, hb9, hc9, hf9⟩ := (show SR w9 rb3 (.slice A3 ds'.length c3) ds' by rw [HN1.out]; exact HR9.out).at_ q0 hgd
                    injection hv9 with e1' _ e3'
                    subst e1' e3'
                    rw [hq0] at x0
                    rw [hoa] at y2
                    have f1 : decide ((k0 : Int) < 0) = false := decide_eq_false (by omega)
                    have f2 : decide ((pn : Int) ≤ (k0 : Int)) = false := decide_eq_false (by omega)
                    have f3 : (k0 : Int) < (pn : Int) := by omega
                    have f4 : decide ((q0 : Int) + 1 < 1) = false := decide_eq_false (by omega)
                    have f5 : decide ((n1 : Int) < (q0 : Int) + 1) = false := decide_eq_false (by omega)
                    have f5' : decide (n1 < q0 + 1) = false := decide_eq_false (by omega)
                    have f6 : (q0 : Int) < (n1 : Int) := by omega
                    have f7 : IntKind.i64.wrap ((q0 : Int) + 1 - 1) = (q0 : Int) := by rw [IntWalk.i64_in _ (by omega)]; omega
                    have f8 : IntKind.i64.wrap (q0 : Int) = (q0 : Int) := IntWalk.i64_in _ (by omega)
                    have hF10 : Fr No w9 (w9.alloc (.cells #[.slice A9 d.length cap9] 51 (0, 0))) := (Fr.refl _ _).alloc _
                    have HSC := Lib.hid (show SrcC (w9.alloc (.cells #[.slice A9 d.length cap9] 51 (0, 0))) d (.slice A9 d.length cap9) from ⟨A9, cap9, rfl, hl9, hb9.frT hF10 (fun _ q => q.elim)⟩)
                    obtain ⟨vs, hvs, hal⟩ := HR9.out.fr0 hF10
                    rw [HN1.out] at hvs
                    have HVS := Lib.hid hvs
                    have HAL := Lib.hid hal
                    have M10 := Lib.hid (M9.out.quiet hF10)
                    have HPA10 := Lib.hid (HPA9.out.fr hF10 (fun _ _ q => q) (fun _ q => q.elim))
                    have HNEW := Lib.hid (fun (_ : 0 < 1) => show ∃ ad, some (⟨w9.heap.size, 0, none⟩ : Addr) = some ad ∧ ∀ (j : Nat) (u : Value), [Value.slice A9 d.length cap9][j]? = some u → (w9.alloc (.cells #[.slice A9 d.length cap9] 51 (0, 0))).cell? (ad.add j) = some u from
                      ⟨_, rfl, fun j u hj => by rw [add0]; exact ((Bk.new w9 51 [Value.slice A9 d.length cap9]).cell j).trans hj⟩)
                    have hnk : n1 ≤ k := by rw [← HN1.out, hds, HNL.out]; exact hcl
                    have hnb : n1 + 1 ≤ 2147483648 := by omega
                    have HZ := Lib.hid hz
                    clear hvs hal hF10 hz M9 HPA9 HR9 hoa hp hgd htn hds hp1 hp2 hpe hr hl8 hA8 x1 x2 x3 x4 x5 hq0 hr9 hle9 hl9 hb9
                    go_wp2_with (at_builtin; refine wl_append _ rfl (.tmp 117) (.tmp 128) 42 rfl 51 _ 1 24 Try.underlying42 infoSrc rfl (by decide) rb3 _ n1 vs rfl HVS.out (some ⟨w9.heap.size, 0, none⟩) 1 1 [Value.slice A9 d.length cap9] rfl rfl HNEW.out (by simp [Value.oneCell']) (by unfold maxLen; omega) (by omega) ?_; intro A6 c6 w6 rb6 hrow6 hF7 hnb6)
                    have HF7 := Lib.hid hF7
                    have HR11 := Lib.hid (SR.push (by rw [HN1.out]; exact HVS.out) HAL.out HSC.out HF7.out (by rw [HN1.out]; exact hrow6))
                    have HRB11 : Hid (∀ q, rb6 = some q → w1.heap.size ≤ q) := fun q hq => by
                      rcases hnb6 with h | ⟨q', h, hle⟩
                      · exact HRB9.out q (by rw [← h]; exact hq)
                      · rw [h] at hq
                        cases hq
                        exact Nat.le_trans M10.out.fr.size hle
                    have h8 : ∀ q, rb3 = some q → BT (w9.alloc (.cells #[.slice A9 d.length cap9] 51 (0, 0))) q 5 → No q := fun q hq h8 => absurd rfl ((HVS.out.bt hq).ne h8 (by decide))
                    have hpk : ∀ r q, rb3 = some q → BT (w9.alloc (.cells #[.slice A9 d.length cap9] 51 (0, 0))) r 31 → r = q → False := fun r q hq hr e => absurd e.symm ((HVS.out.bt hq).ne hr (by decide))
                    have M11 := Lib.hid (M10.out.other HVS.out (by decide) (by decide) (by decide) hF7 HRB9.out)
                    have HPA11 := Lib.hid (HPA10.out.fr hF7 (fun r hr q => hpk r r q (HPA10.out.bt hr) rfl) h8)
                    clear hrow6 hF7 hnb6 h8 hpk HF7 M10 HPA10 HVS HAL HSC HNEW
                    go_wp2
                    go_meet
                    exact ⟨ds' ++ [d], A6, c6, rb6, by rw [List.length_append, HN1.out]; rfl, by rw [List.length_append, HN1.out]; simp; exact hnk, HTN.out.symm, HR11, HRB11, M11, HPA11⟩
                  · have hd : decide (z2 = 0 ∧ o.kind = 2) = false := decide_eq_false hz
                    rw [hd]
                    clear hd
                    have HTN := Lib.hid (show ds' = tgrow ds (tnew s ds o z2) by
                      rw [HDS'.out]
                      unfold tnew
                      by_cases h0 : z2 = 0 ∧ o.kind = 0
                      · rw [if_pos h0, if_pos h0]; rfl
                      · rw [if_neg h0, if_neg h0, if_neg hz]; rfl)
                    go_wp2
                    go_meet
                    exact ⟨ds', A3, c3, rb3, by rw [HN1.out], by rw [HN1.out]; exact hdl', HTN.out, by rw [HN1.out]; exact HR9, HRB9, M9, HPA9⟩
                case rest =>
                  obtain ⟨ds2, A4, c4, rb4, rfl, hdl2, HDS2, HR10, HRB10, M10, HPA10⟩ := hcut
                  obtain ⟨w10, rfl⟩ : ∃ w10, w10 = wc := ⟨_, rfl⟩
                  have HT2 : Hid (TInv z1 ds2) := by
                    have := HT1.out.2.1
                    rw [← HDS2.out] at this
                    exact this
                  have HDD : Hid (∀ d ∈ ds2, d.length ≤ 140737488355328) := by
                    rw [HDS2.out]
                    exact grow_small HDS.out HI.out HSD.out HDL.out
                  obtain ⟨n2, hn2⟩ : ∃ n2, ds2.length = n2 := ⟨_, rfl⟩
                  have HN2 := Lib.hid hn2
                  rw [hn2] at HR10 hdl2 ⊢
                  clear hn2 HX9 HR9 HPL9 HPA9 M9
                  go_wp2
                  go_loopw [12] (fun i wx => ∃ j : Nat, j ≤ pm ∧ i = .int .i64 j ∧ Hid (Fr No w10 wx)) (fun i _ => pm - (intOf i).toNat)
                  case atStart => exact ⟨0, Nat.zero_le _, rfl, Fr.refl _ _⟩
                  case round =>
                    obtain ⟨j, hj, rfl, HF⟩ := hrel
                    by_cases hjp : j < pm
                    · have hjl : j < z1.ps.length := by rw [HPM.out]; exact hjp
                      obtain ⟨p1, p2, d, hgd, hnear⟩ := HT2.out.pk z1.ps[j] (List.getElem_mem _)
                      obtain ⟨r, c8, A8, cap8, hr, hv, _, hl8, hA8, x0, x1, x2, x3, x4, x5, xf⟩ := (HPA10.out.fr HF.out (fun _ _ q => q) (fun _ q => q.elim)).at_ j hjl
                      rw [HPM.out] at hv
                      injection hv with e1 _ e3
                      subst e1 e3
                      obtain ⟨q0, hq0⟩ : ∃ q0 : Nat, z1.ps[j].num = (q0 : Int) + 1 := ⟨(z1.ps[j].num - 1).toNat, by omega⟩
                      rw [show (z1.ps[j].num - 1).toNat = q0 by omega] at hgd
                      rw [HN2.out] at p2
                      obtain ⟨r9, c9, A9, cap9, hr9, hv9, hle9, hl9, hb9, hc9, hf9⟩ := (show SR wr rb4 (.slice A4 ds2.length c4) ds2 by rw [HN2.out]; exact HR10.out.fr0 HF.out).at_ q0 hgd
                      injection hv9 with e1' _ e3'
                      subst e1' e3'
                      have HSP := Lib.hid (fun W (hw : Fr No wr W) => nearly z1.ps[j] A8 A9 cap8 cap9 d W (hA8.any.fr hw (fun _ _ _ q => q)) (hb9.any.fr hw (fun _ _ _ q => q)) (by have := HDD.out d (List.mem_of_getElem? hgd); omega) hnear)
                      generalize z1.ps[j] = p at *
                      obtain ⟨num, fr, tq, age, turned, data⟩ := p
                      unfold Pk.cells at HSP
                      dsimp only at *
                      rw [hq0] at x0
                      rw [hq0] at HSP
                      have hpmb : pm ≤ 1024 := by rw [← HPM.out]; exact HO1.out.lenN
                      have hji : (j : Int) < (pm : Int) := by omega
                      have hw : IntKind.i64.wrap ((j : Int) + 1) = (j : Int) + 1 := IntWalk.i64_in _ (by omega)
                      have d1 : decide ((j : Int) < (pm : Int)) = true := decide_eq_true hji
                      have f4 : decide ((q0 : Int) + 1 < 1) = false := decide_eq_false (by omega)
                      have f5 : decide ((n2 : Int) < (q0 : Int) + 1) = false := decide_eq_false (by omega)
                      have f5' : decide (n2 < q0 + 1) = false := decide_eq_false (by omega)
                      have f6 : (q0 : Int) < (n2 : Int) := by omega
                      have f7 : IntKind.i64.wrap ((q0 : Int) + 1 - 1) = (q0 : Int) := by rw [IntWalk.i64_in _ (by omega)]; omega
                      have f8 : IntKind.i64.wrap (q0 : Int) = (q0 : Int) := IntWalk.i64_in _ (by omega)
                      clear hA8 hl8 hl9 hb9 hle9 hr hr9 xf hf9 hnear hgd p1 p2 hq0
                      go_wp2
                      go_still_tail 31, (by kernel_rfl)
                      change wpList _ _ _ _ _ wr.drew
                      generalize hw2 : wr.drew = w2
                      have hF2 : Fr No wr w2 := by rw [← hw2]; exact (Fr.refl _ _).drew
                      have HC := Lib.hid (HSP.out w2 hF2)
                      have HF2 := Lib.hid (HF.out.then_ hF2)
                      clear hw2 HSP HF hF2 x0 x1 x2 x3 x4 x5 hc9
                      go_wp2_with fail
                      refine HC.out.mono ?_
                      rintro e w3 ⟨rfl, hF3⟩
                      have HF3 := Lib.hid (HF2.out.then_ hF3)
                      clear hF3 HC
                      go_wp2
                      go_roundw
                      case rel => exact ⟨j + 1, by omega, by go_num, HF3⟩
                      case measure => simp [intOf]; omega
                    · obtain rfl : j = pm := by omega
                      have M11 := Lib.hid (M10.out.quiet HF.out)
                      have HR11 := Lib.hid (HR10.out.fr0 HF.out)
                      have hwk : IntKind.i64.wrap ((k : Int) + 1) = (k : Int) + 1 := IntWalk.i64_in _ (by omega)
                      clear HF
                      go_wp2
                      go_roundw
                      case rel => exact ⟨k + 1, z1, ds2, rb', rb4, A4, c4, by omega, by go_num, by rw [HN2.out], by rw [HN2.out]; exact hdl2, M11, by rw [HN2.out]; exact HR11, HRB10, HT2, HDD, by show Okk ((k + 1 : Nat) : Int) z1; exact HO1.out⟩
                      case measure => simp [intOf]; omega
      · obtain rfl : k = m := by omega
        have d0 : decide ((k : Int) < (k : Int)) = false := decide_eq_false (by omega)
        go_wp2
        go_ret
        exact ⟨rfl, M.out.fr⟩
theorem turned_row (w : World) (room : Int) (_wr : (Lit.int .i64 room).wf = true) (A : Option Addr) (c : Nat) (l : List OpV) (hA : OR w A l ∧ ∀ o ∈ l, o.data.length ≤ 140737488351232) (hl : l.length ≤ c) (hc : c * 64 ≤ 140737488351232) :
    Calls Try.prog 4 #[.int .i64 room, .slice A l.length c] w fun e w' => e = .returned (.bool true) ∧ Below w.heap.size w w' :=
  (turned_walk room A c l w hA.1 (by omega) (fun o ho => by have := hA.2 o ho; omega)).mono fun _ _ ⟨h, h'⟩ => ⟨h, h'.to⟩
end Go.Proofs.Ytilpffolldegbaa.Bg
