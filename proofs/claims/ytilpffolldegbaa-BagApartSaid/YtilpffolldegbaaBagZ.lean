/- The law BagApart: its walk. Conditions: none. -/
import Derived.Test.YtilpffolldegbaaBagY
import Derived.Deep.DeepCutAuto
namespace Go.Proofs.Ytilpffolldegbaa.Bg
open Go.RowKit Go.Proofs.Ytilpffolldegbaa.Mem
set_option linter.unusedVariables false
set_option linter.unusedSimpArgs false
/-- a script that came in -/
structure Scr (w : World) (A : Option Addr) (l : List OpV) : Prop where
  reads : OR w A l
  len : l.length ≤ 4611686018427387904
  data : ∀ o ∈ l, o.data.length ≤ 140737488355328
/-- step k of a script, in whatever world -/
theorem scr_at {w0 : World} {A : Option Addr} {l : List OpV} (h : Scr w0 A l) (k : Nat) (hk : k < l.length) :
    ∃ (ad : Addr) (o : OpV) (Ad : Option Addr) (cap dl : Nat), o.data.length = dl ∧ A = some ad ∧ l[k]? = some o ∧ o.data.length ≤ 140737488355328 ∧ ∀ w, Fr No w0 w → (BR Any w Ad o.data ∧
      w.cell? (ad.add (k * 6)) = some (.bool o.second) ∧ w.cell? ⟨(ad.add (k * 6)).block, (ad.add (k * 6)).off + 1, none⟩ = some (.int .i64 o.kind) ∧ w.cell? ⟨(ad.add (k * 6)).block, (ad.add (k * 6)).off + 2, none⟩ = some (.int .i64 o.a) ∧
      w.cell? ⟨(ad.add (k * 6)).block, (ad.add (k * 6)).off + 3, none⟩ = some (.int .i64 o.b) ∧ w.cell? ⟨(ad.add (k * 6)).block, (ad.add (k * 6)).off + 4, none⟩ = some (.int .i64 o.y) ∧ w.cell? ⟨(ad.add (k * 6)).block, (ad.add (k * 6)).off + 5, none⟩ = some (.slice Ad dl cap)) := by
  obtain ⟨ad, Ad, c, hA, hl, hb, h0, h1, h2, h3, h4, h5⟩ := h.reads k l[k] (List.getElem?_eq_getElem hk)
  exact ⟨ad, l[k], Ad, c, _, rfl, hA, List.getElem?_eq_getElem hk, h.data _ (List.getElem_mem _), fun w hf => ⟨hb.fr hf (fun _ _ _ q => q), cell_fr hf h0, cell_fr hf h1, cell_fr hf h2, cell_fr hf h3, cell_fr hf h4, cell_fr hf h5⟩⟩
theorem sys_at {w0 w : World} {l : List En} {rq : Option Nat} {vq : Value} {q : List Pk} {g : Nat} {rb : Option Nat} {s : St} {b : Int} (h : Sys w0 w l rq vq q) (i : Nat) (hi : l[i]? = some ⟨g, rb, s⟩) (hok : Okk b s) (hb : b ≤ 4611686018427387904)
    (o : OpV) (A : Option Addr) (c dl : Nat) (he : o.data.length = dl) (hA : BR Any w A o.data) (hd : o.data.length ≤ 140737488355328) :
    Calls Try.prog 19 #[.pointer (some ⟨g, 0, none⟩), .agg #[.bool o.second, .int .i64 o.kind, .int .i64 o.a, .int .i64 o.b, .int .i64 o.y, .slice A dl c]] w fun e w' => ∃ rb', e = .returned (.int .i64 (oneS s o).2) ∧ Sys w0 w' (l.set i ⟨g, rb', (oneS s o).1⟩) rq vq q := by
  have := sys_one h i hi hok hb o A c hA hd
  rw [OpV.cells, he] at this
  exact this
set_option maxHeartbeats 4000000 in
set_option maxRecDepth 100000 in
theorem apart_walk (room : Int) (A B C : Option Addr) (c d e : Nat) (x y z : List OpV) (w : World) (hA : Scr w A x) (hB : Scr w B y) (hC : Scr w C z) :
    Calls Try.prog 6 #[.agg #[.int .i64 room, .slice A x.length c, .slice B y.length d, .slice C z.length e]] w fun en w' => en = .returned (.bool true) ∧ Fr No w w' := by
  obtain ⟨w1, hw1⟩ : ∃ w1, w.alloc (.cells #[.int .i64 room, .slice A x.length c, .slice B y.length d, .slice C z.length e] 55 (0, 0)) = w1 := ⟨_, rfl⟩
  have hF1 : Fr No w w1 := by rw [← hw1]; exact (Fr.refl _ _).alloc _
  have hX : Bk w1 w.heap.size 55 [.int .i64 room, .slice A x.length c, .slice B y.length d, .slice C z.length e] := by rw [← hw1]; exact Bk.new _ _ _
  have HA := Lib.hid hA
  have HB := Lib.hid hB
  have HC := Lib.hid hC
  have HF1 := Lib.hid hF1
  have HBY := Lib.hid (beyond A B C c d e x y z w1 (hA.reads.fr hF1) (hB.reads.fr hF1) (hC.reads.fr hF1) hA.len hB.len hC.len hA.data hB.data hC.data)
  have HLX := Lib.hid (tot_len x)
  have HLY := Lib.hid (tot_len y)
  have HLZ := Lib.hid (tot_len z)
  have v0 := hX.cell 0
  have v1 := hX.cell 1
  have v2 := hX.cell 2
  have v3 := hX.cell 3
  obtain ⟨nx, hnx⟩ : ∃ n, x.length = n := ⟨_, rfl⟩
  obtain ⟨ny, hny⟩ : ∃ n, y.length = n := ⟨_, rfl⟩
  obtain ⟨nz, hnz⟩ : ∃ n, z.length = n := ⟨_, rfl⟩
  have HNX := Lib.hid hnx
  have HNY := Lib.hid hny
  have HNZ := Lib.hid hnz
  rw [hnx, hny, hnz] at HBY hw1 v0 v1 v2 v3 ⊢
  simp only [List.getElem?_cons_zero, List.getElem?_cons_succ] at v0 v1 v2 v3
  clear hA hB hC hF1 hX hnx hny hnz
  by_cases hbig : 2147483647 < tot x + tot y + tot z
  · rw [decide_eq_true hbig] at HBY
    go_enter Try.func6, Try.ntmps6
    go_wp2_with fail
    refine HBY.out.mono ?_
    rintro e w1 ⟨rfl, rfl⟩
    go_wp2
    go_ret
    exact ⟨rfl, HF1.out⟩
  rw [decide_eq_false hbig] at HBY
  have hbx : nx ≤ 2147483647 := by have := HLX.out; rw [HNX.out] at this; omega
  have hby : ny ≤ 2147483647 := by have := HLY.out; rw [HNY.out] at this; omega
  have hbz : nz ≤ 2147483647 := by have := HLZ.out; rw [HNZ.out] at this; omega
  clear hbig HLX HLY HLZ
  by_cases hroom : room < 1 ∨ 1024 < room
  · have HN := Lib.hid (fun W => bNew_no room W hroom)
    have hr : decide (room < 1) = true ∨ (decide (room < 1) = false ∧ decide (1024 < room) = true) := by
      rcases hroom with hr | hr
      · exact .inl (decide_eq_true hr)
      · exact .inr ⟨decide_eq_false (by omega), decide_eq_true hr⟩
    clear hroom
    rcases hr with d1 | ⟨d1, d2⟩
    · go_enter Try.func6, Try.ntmps6
      go_wp2_with fail
      refine HBY.out.mono ?_
      rintro e w1 ⟨rfl, rfl⟩
      clear hw1
      go_wp2_with fail
      refine (shown _).mono ?_
      rintro e w2 ⟨rfl, hF2⟩
      have HF2 := Lib.hid (HF1.out.then_ hF2)
      have v0' := cell_fr hF2 v0
      have v1' := cell_fr hF2 v1
      have v2' := cell_fr hF2 v2
      have v3' := cell_fr hF2 v3
      clear hF2 v0 v1 v2 v3 HBY
      go_wp2_with fail
      refine (HN.out _).mono ?_
      rintro e w3 ⟨rfl, rfl⟩
      go_wp2
      go_ret
      exact ⟨rfl, HF2.out⟩
    · go_enter Try.func6, Try.ntmps6
      go_wp2_with fail
      refine HBY.out.mono ?_
      rintro e w1 ⟨rfl, rfl⟩
      clear hw1
      go_wp2_with fail
      refine (shown _).mono ?_
      rintro e w2 ⟨rfl, hF2⟩
      have HF2 := Lib.hid (HF1.out.then_ hF2)
      have v0' := cell_fr hF2 v0
      have v1' := cell_fr hF2 v1
      have v2' := cell_fr hF2 v2
      have v3' := cell_fr hF2 v3
      clear hF2 v0 v1 v2 v3 HBY
      go_wp2_with fail
      refine (HN.out _).mono ?_
      rintro e w3 ⟨rfl, rfl⟩
      go_wp2
      go_ret
      exact ⟨rfl, HF2.out⟩
  · have hr0 : 1 ≤ room := by omega
    have hr1 : room ≤ 1024 := by omega
    have d1 : decide (room < 1) = false := decide_eq_false (by omega)
    have d2 : decide (1024 < room) = false := decide_eq_false (by omega)
    clear hroom
    go_enter Try.func6, Try.ntmps6
    go_wp2_with fail
    refine HBY.out.mono ?_
    rintro e w1 ⟨rfl, rfl⟩
    clear hw1
    go_wp2_with fail
    refine (shown _).mono ?_
    rintro e w2 ⟨rfl, hF2⟩
    have S2 := Lib.hid (Sys.nil hF2)
    have v0' := cell_fr hF2 v0
    have v1' := cell_fr hF2 v1
    have v2' := cell_fr hF2 v2
    have v3' := cell_fr hF2 v3
    obtain ⟨X, hX⟩ : ∃ X, w.heap.size = X := ⟨_, rfl⟩
    rw [hX] at v0' v1' v2' v3' ⊢
    clear hF2 v0 v1 v2 v3 HBY hX
    go_wp2_with fail
    refine (bNew No room w2 hr0 hr1).mono ?_
    rintro e w3 ⟨rfl, hB3, hF3⟩
    obtain ⟨g, hg⟩ : ∃ g, w2.heap.size = g := ⟨_, rfl⟩
    have S3 := Lib.hid (show Sys w1 w3 [⟨g, none, ⟨room, 0, []⟩⟩] none (.slice none 0 0) [] by
      have := S2.out.more (rb := none) hB3 hF3 (fun k h => by cases h)
      rw [hg] at this
      exact this)
    rw [hg]
    clear hB3 hF3 hg S2 v0' v1' v2' v3'
    go_wp2_with fail
    refine (bNew No room w3 hr0 hr1).mono ?_
    rintro e w4 ⟨rfl, hB4, hF4⟩
    obtain ⟨g2, hg⟩ : ∃ g2, w3.heap.size = g2 := ⟨_, rfl⟩
    have S4 := Lib.hid (show Sys w1 w4 [⟨g, none, ⟨room, 0, []⟩⟩, ⟨g2, none, ⟨room, 0, []⟩⟩] none (.slice none 0 0) [] by
      have := S3.out.more (rb := none) hB4 hF4 (fun k h => by cases h)
      rw [hg] at this
      exact this)
    rw [hg]
    clear hB4 hF4 hg S3
    have HO0 := Lib.hid (show Okk 0 ⟨room, 0, []⟩ from ⟨hr0, hr1, by simp; omega, by simp, by simp, fun p hp => by cases hp⟩)
    obtain ⟨s0, hs0⟩ : ∃ s0 : St, (⟨room, 0, []⟩ : St) = s0 := ⟨_, rfl⟩
    have HS0 := Lib.hid hs0
    rw [hs0] at S4 HO0
    clear hs0
    go_wp2
    go_loopw [11] (fun i wr => ∃ (k : Nat) (s : St) (rb rb2 : Option Nat), k ≤ nx ∧ i = .int .i64 k ∧ Hid (Sys w1 wr [⟨g, rb, s⟩, ⟨g2, rb2, s⟩] none (.slice none 0 0) []) ∧ Hid (s = runS s0 (x.take k)) ∧ Hid (Okk (k : Int) s)) (fun i _ => nx - (intOf i).toNat)
    case atStart => exact ⟨0, s0, none, none, Nat.zero_le _, rfl, S4, rfl, HO0⟩
    case round =>
      clear S4
      obtain ⟨k, s, rb, rb2, hk, rfl, S, HR, HO⟩ := hrel
      by_cases hlt : k < nx
      · obtain ⟨ad, o, Ad, cap, dl, hde, rfl, ho, hdl, hsc⟩ := scr_at HA.out k (by rw [HNX.out]; exact hlt)
        have HSC := Lib.hid hsc
        have HDE := Lib.hid hde
        have hki : (k : Int) < (nx : Int) := by omega
        obtain ⟨z, hz⟩ : ∃ z, oneS s o = z := ⟨_, rfl⟩
        have HZ := Lib.hid hz
        have HR1 := Lib.hid (show z.1 = runS s0 (x.take (k + 1)) by rw [run_take _ _ _ _ ho, ← HR.out, hz])
        have HO1 := Lib.hid (one_ok HO.out (by omega) o hdl)
        rw [hz] at HO1
        have hw : IntKind.i64.wrap ((k : Int) + 1) = (k : Int) + 1 := IntWalk.i64_in _ (by omega)
        have d3 : decide ((k : Int) < (nx : Int)) = true := decide_eq_true hki
        clear hsc hde ho hz
        obtain ⟨hbr, x0, x1, x2, x3, x4, x5⟩ := HSC.out _ (HF1.out.then_ S.out.fr)
        have HONE := Lib.hid (sys_at S.out 0 rfl HO.out (by omega) o Ad cap dl HDE.out hbr hdl)
        rw [HZ.out] at HONE
        clear hbr
        go_wp2_with fail
        refine HONE.out.mono ?_
        rintro e w5 ⟨rb5, rfl, hS⟩
        have S5 := Lib.hid (show Sys w1 w5 [⟨g, rb5, z.1⟩, ⟨g2, rb2, s⟩] none (.slice none 0 0) [] from hS)
        clear hS HONE x0 x1 x2 x3 x4 x5 S
        obtain ⟨hbr, x0, x1, x2, x3, x4, x5⟩ := HSC.out _ (HF1.out.then_ S5.out.fr)
        have HONE := Lib.hid (sys_at S5.out 1 rfl HO.out (by omega) o Ad cap dl HDE.out hbr hdl)
        rw [HZ.out] at HONE
        clear hbr
        go_wp2_with fail
        refine HONE.out.mono ?_
        rintro e w6 ⟨rb6, rfl, hS⟩
        have S6 := Lib.hid (show Sys w1 w6 [⟨g, rb5, z.1⟩, ⟨g2, rb6, z.1⟩] none (.slice none 0 0) [] from hS)
        clear hS HONE x0 x1 x2 x3 x4 x5 S5
        go_wp2
        go_roundw
        case rel => exact ⟨k + 1, z.1, rb5, rb6, by omega, by go_num, S6, HR1, by show Okk ((k + 1 : Nat) : Int) z.1; exact HO1.out⟩
        case measure => simp [intOf]; omega
      · obtain rfl : k = nx := by omega
        have d3 : decide ((k : Int) < (k : Int)) = false := decide_eq_false (by omega)
        have HRX := Lib.hid (show s = runS s0 x by have := HR.out; rwa [← HNX.out, List.take_length] at this)
        have HCL := Lib.hid (bClone wr (S.out.bag 0 _ rfl) (by have := HO.out.lenN; dsimp only; omega))
        obtain ⟨gc, hgc⟩ : ∃ gc, wr.heap.size = gc := ⟨_, rfl⟩
        have HGC := Lib.hid hgc
        rw [hgc] at HCL
        clear HR hlt hgc
        go_wp2_with fail
        refine HCL.out.mono ?_
        rintro e w5 ⟨rb3, rfl, hB5, hF5, hn5⟩
        have S5 := Lib.hid (show Sys w1 w5 [⟨g, rb, s⟩, ⟨g2, rb2, s⟩, ⟨gc, rb3, s⟩] none (.slice none 0 0) [] by
          have := S.out.more (rb := rb3) (s := s) (by rw [HGC.out]; exact hB5) hF5 (by rw [HGC.out]; exact hn5)
          rw [HGC.out] at this
          exact this)
        have HLI := Lib.hid (bList (H := No) (s := s) w5 (S5.out.bag 2 _ rfl) (by have := HO.out.lenN; omega) HO.out.small (fun _ _ q => q))
        obtain ⟨pn, hpn⟩ : ∃ pn, s.ps.length = pn := ⟨_, rfl⟩
        have HPN := Lib.hid hpn
        rw [hpn] at HLI
        clear hB5 hF5 hn5 S HCL hpn
        go_wp2_with fail
        refine HLI.out.mono ?_
        rintro e w6 ⟨A1, c1, rbl, rfl, hpl, hF6, hrbl⟩
        have S6 := Lib.hid (S5.out.list hF6 hpl hrbl)
        clear hpl hF6 hrbl S5 HLI
        have HO6 := HO
        obtain ⟨N, hN1, hN2, hN3⟩ : ∃ N, ny ≤ N ∧ nz ≤ N ∧ (N = ny ∨ N = nz) := by
          by_cases h : ny ≤ nz
          · exact ⟨nz, h, Nat.le_refl _, .inr rfl⟩
          · exact ⟨ny, Nat.le_refl _, by omega, .inl rfl⟩
        have HN3 := Lib.hid hN3
        have hNb : N ≤ 2147483647 := by omega
        clear hN3
        go_wp2
        go_loopw [14] (fun i wr => ∃ (j : Nat) (sb sc : St) (ra rb rc : Option Nat), j ≤ N ∧ i = .int .i64 j ∧ Hid (Sys w1 wr [⟨g, ra, sb⟩, ⟨g2, rb, sb⟩, ⟨gc, rc, sc⟩] rbl (.slice A1 pn c1) s.ps) ∧ Hid (sc = runS s (z.take j)) ∧ Hid (Okk ((k : Int) + (j : Int)) sb) ∧ Hid (Okk ((k : Int) + (j : Int)) sc)) (fun i _ => N - (intOf i).toNat)
        case atStart => exact ⟨0, s, s, rb, rb2, rb3, Nat.zero_le _, rfl, S6, rfl, by show Okk ((k : Int) + ((0 : Nat) : Int)) s; simp; exact HO.out, by show Okk ((k : Int) + ((0 : Nat) : Int)) s; simp; exact HO.out⟩
        case round =>
          clear S6
          obtain ⟨j, sb, sc, ra, rb, rc, hj, rfl, S, HR, HOB, HOC⟩ := hrel
          have hwj : IntKind.i64.wrap ((j : Int) + 1) = (j : Int) + 1 := IntWalk.i64_in _ (by omega)
          by_cases hy : j < ny
          · obtain ⟨ad, o, Ad, cap, dl, hde, rfl, ho, hdl, hsc⟩ := scr_at HB.out j (by rw [HNY.out]; exact hy)
            have HSC := Lib.hid hsc
            have HDE := Lib.hid hde
            have hji : (j : Int) < (ny : Int) := by omega
            obtain ⟨t, hz⟩ : ∃ t, oneS sb o = t := ⟨_, rfl⟩
            have HZ := Lib.hid hz
            have HO1 := Lib.hid (one_ok HOB.out (by omega) o hdl)
            rw [hz] at HO1
            have d3 : decide ((j : Int) < (ny : Int)) = true := decide_eq_true hji
            have d4 : (t.2 != t.2) = false := by simp
            clear hsc hde ho hz
            obtain ⟨hbr, x0, x1, x2, x3, x4, x5⟩ := HSC.out _ (HF1.out.then_ S.out.fr)
            have HONE := Lib.hid (sys_at S.out 0 rfl HOB.out (by omega) o Ad cap dl HDE.out hbr hdl)
            rw [HZ.out] at HONE
            clear hbr
            go_wp2_with fail
            refine HONE.out.mono ?_
            rintro e w7 ⟨rb7, rfl, hS⟩
            have S5 := Lib.hid (show Sys w1 w7 [⟨g, rb7, t.1⟩, ⟨g2, rb, sb⟩, ⟨gc, rc, sc⟩] rbl (.slice A1 pn c1) s.ps from hS)
            clear hS HONE x0 x1 x2 x3 x4 x5 S
            obtain ⟨hbr, x0, x1, x2, x3, x4, x5⟩ := HSC.out _ (HF1.out.then_ S5.out.fr)
            have HONE := Lib.hid (sys_at S5.out 1 rfl HOB.out (by omega) o Ad cap dl HDE.out hbr hdl)
            rw [HZ.out] at HONE
            clear hbr
            go_wp2_with fail
            refine HONE.out.mono ?_
            rintro e w8 ⟨rb8, rfl, hS⟩
            have S6 := Lib.hid (show Sys w1 w8 [⟨g, rb7, t.1⟩, ⟨g2, rb8, t.1⟩, ⟨gc, rc, sc⟩] rbl (.slice A1 pn c1) s.ps from hS)
            clear hS HONE x0 x1 x2 x3 x4 x5 S5
            clear HSC HDE
            by_cases hzl : j < nz
            · clear HZ hdl
              obtain ⟨ad, o, Ad, cap, dl, hde, rfl, ho, hdl, hsc⟩ := scr_at HC.out j (by rw [HNZ.out]; exact hzl)
              have HSC := Lib.hid hsc
              have HDE := Lib.hid hde
              have hji' : (j : Int) < (nz : Int) := by omega
              obtain ⟨v, hz⟩ : ∃ v, oneS sc o = v := ⟨_, rfl⟩
              have HZ := Lib.hid hz
              have HR1 := Lib.hid (show v.1 = runS s (z.take (j + 1)) by rw [run_take _ _ _ _ ho, ← HR.out, hz])
              have HO2 := Lib.hid (one_ok HOC.out (by omega) o hdl)
              rw [hz] at HO2
              have d5 : decide ((j : Int) < (nz : Int)) = true := decide_eq_true hji'
              clear hsc hde ho hz
              obtain ⟨hbr, x0, x1, x2, x3, x4, x5⟩ := HSC.out _ (HF1.out.then_ S6.out.fr)
              have HONE := Lib.hid (sys_at S6.out 2 rfl HOC.out (by omega) o Ad cap dl HDE.out hbr hdl)
              rw [HZ.out] at HONE
              clear hbr
              go_wp2_with fail
              refine HONE.out.mono ?_
              rintro e w9 ⟨rb9, rfl, hS⟩
              have S7 := Lib.hid (show Sys w1 w9 [⟨g, rb7, t.1⟩, ⟨g2, rb8, t.1⟩, ⟨gc, rb9, v.1⟩] rbl (.slice A1 pn c1) s.ps from hS)
              clear hS HONE x0 x1 x2 x3 x4 x5 S6
              go_wp2
              go_roundw
              case rel => exact ⟨j + 1, t.1, v.1, rb7, rb8, rb9, by omega, by go_num, S7, HR1, by show Okk ((k : Int) + ((j + 1 : Nat) : Int)) _; exact (HO1.out.mono (by omega)), by show Okk ((k : Int) + ((j + 1 : Nat) : Int)) _; exact (HO2.out.mono (by omega))⟩
              case measure => simp [intOf]; omega
            · have d5 : decide ((j : Int) < (nz : Int)) = false := decide_eq_false (by omega)
              have HR1 := Lib.hid (show sc = runS s (z.take (j + 1)) by rw [HR.out, List.take_of_length_le (by rw [HNZ.out]; omega), List.take_of_length_le (by rw [HNZ.out]; omega)])
              go_wp2
              go_roundw
              case rel => exact ⟨j + 1, t.1, sc, rb7, rb8, rc, by omega, by go_num, S6, HR1, by show Okk ((k : Int) + ((j + 1 : Nat) : Int)) _; exact (HO1.out.mono (by omega)), by show Okk ((k : Int) + ((j + 1 : Nat) : Int)) _; exact (HOC.out.mono (by omega))⟩
              case measure => simp [intOf]; omega
          · have d3 : decide ((j : Int) < (ny : Int)) = false := decide_eq_false (by omega)
            by_cases hzl : j < nz
            · obtain ⟨ad, o, Ad, cap, dl, hde, rfl, ho, hdl, hsc⟩ := scr_at HC.out j (by rw [HNZ.out]; exact hzl)
              have HSC := Lib.hid hsc
              have HDE := Lib.hid hde
              have hji' : (j : Int) < (nz : Int) := by omega
              obtain ⟨v, hz⟩ : ∃ v, oneS sc o = v := ⟨_, rfl⟩
              have HZ := Lib.hid hz
              have HR1 := Lib.hid (show v.1 = runS s (z.take (j + 1)) by rw [run_take _ _ _ _ ho, ← HR.out, hz])
              have HO2 := Lib.hid (one_ok HOC.out (by omega) o hdl)
              rw [hz] at HO2
              have d5 : decide ((j : Int) < (nz : Int)) = true := decide_eq_true hji'
              clear hsc hde ho hz
              obtain ⟨hbr, x0, x1, x2, x3, x4, x5⟩ := HSC.out _ (HF1.out.then_ S.out.fr)
              have HONE := Lib.hid (sys_at S.out 2 rfl HOC.out (by omega) o Ad cap dl HDE.out hbr hdl)
              rw [HZ.out] at HONE
              clear hbr
              go_wp2_with fail
              refine HONE.out.mono ?_
              rintro e w9 ⟨rb9, rfl, hS⟩
              have S7 := Lib.hid (show Sys w1 w9 [⟨g, ra, sb⟩, ⟨g2, rb, sb⟩, ⟨gc, rb9, v.1⟩] rbl (.slice A1 pn c1) s.ps from hS)
              clear hS HONE x0 x1 x2 x3 x4 x5 S
              go_wp2
              go_roundw
              case rel => exact ⟨j + 1, sb, v.1, ra, rb, rb9, by omega, by go_num, S7, HR1, by show Okk ((k : Int) + ((j + 1 : Nat) : Int)) _; exact (HOB.out.mono (by omega)), by show Okk ((k : Int) + ((j + 1 : Nat) : Int)) _; exact (HO2.out.mono (by omega))⟩
              case measure => simp [intOf]; omega
            · have d5 : decide ((j : Int) < (nz : Int)) = false := decide_eq_false (by omega)
              have HRC := Lib.hid (show sc = runS s z by have := HR.out; rwa [List.take_of_length_le (by rw [HNZ.out]; omega)] at this)
              have HL1 := Lib.hid (bList (H := No) (s := sb) wr (S.out.bag 0 _ rfl) (by have := HOB.out.lenN; omega) HOB.out.small (fun _ _ q => q))
              obtain ⟨pb, hpb⟩ : ∃ pb, sb.ps.length = pb := ⟨_, rfl⟩
              have HPB := Lib.hid hpb
              rw [hpb] at HL1
              clear hpb HR
              go_wp2_with fail
              refine HL1.out.mono ?_
              rintro e w7 ⟨A2, c2, r2, rfl, hp2, hF7, hr2⟩
              have S7 := Lib.hid (S.out.quiet hF7)
              have HP2 := Lib.hid hp2
              have HL2 := Lib.hid (bList (H := No) (s := sb) w7 (S7.out.bag 1 _ rfl) (by have := HOB.out.lenN; omega) HOB.out.small (fun _ _ q => q))
              rw [HPB.out] at HL2
              clear hp2 hF7 hr2 S HL1
              go_wp2_with fail
              refine HL2.out.mono ?_
              rintro e w8 ⟨A3, c3, r3, rfl, hp3, hF8, hr3⟩
              have S8 := Lib.hid (S7.out.quiet hF8)
              have HSP := Lib.hid (samePackets (H := No) (K := No) (ra := r2) (rb := r3) sb.ps A2 A3 c2 c3 w8 (by rw [HPB.out]; exact HP2.out.below hF8.to) (by rw [HPB.out]; exact hp3) HOB.out.small)
              rw [HPB.out] at HSP
              clear hp3 hF8 hr3 S7 HL2 HP2
              go_wp2_with fail
              refine HSP.out.mono ?_
              rintro e w9 ⟨rfl, hF9⟩
              have S9 := Lib.hid (S8.out.quiet hF9)
              clear hF9 S8 HSP
              go_wp2_with fail
              refine (bNew No room w9 hr0 hr1).mono ?_
              rintro e w10 ⟨rfl, hB4, hF4⟩
              obtain ⟨g4, hg⟩ : ∃ g4, w9.heap.size = g4 := ⟨_, rfl⟩
              have S10 := Lib.hid (show Sys w1 w10 [⟨g, ra, sb⟩, ⟨g2, rb, sb⟩, ⟨gc, rc, sc⟩, ⟨g4, none, s0⟩] rbl (.slice A1 pn c1) s.ps by
                have := S9.out.more (rb := none) hB4 hF4 (fun k h => by cases h)
                rw [hg, HS0.out] at this
                exact this)
              rw [hg]
              clear hB4 hF4 hg S9 d5 d3
              go_wp2
              go_loopw [19] (fun i wr => ∃ (i' : Nat) (s' : St) (rd : Option Nat), i' ≤ k ∧ i = .int .i64 i' ∧ Hid (Sys w1 wr [⟨g, ra, sb⟩, ⟨g2, rb, sb⟩, ⟨gc, rc, sc⟩, ⟨g4, rd, s'⟩] rbl (.slice A1 pn c1) s.ps) ∧ Hid (s' = runS s0 (x.take i')) ∧ Hid (Okk (i' : Int) s')) (fun i _ => k - (intOf i).toNat)
              case atStart => exact ⟨0, s0, none, Nat.zero_le _, rfl, S10, rfl, HO0⟩
              case round =>
                clear S10
                obtain ⟨i, s', rd, hi, rfl, S, HR, HO⟩ := hrel
                by_cases hlt : i < k
                · obtain ⟨ad, o, Ad, cap, dl, hde, rfl, ho, hdl, hsc⟩ := scr_at HA.out i (by rw [HNX.out]; exact hlt)
                  have HSC := Lib.hid hsc
                  have HDE := Lib.hid hde
                  have hki : (i : Int) < (k : Int) := by omega
                  obtain ⟨t, hz⟩ : ∃ t, oneS s' o = t := ⟨_, rfl⟩
                  have HZ := Lib.hid hz
                  have HR1 := Lib.hid (show t.1 = runS s0 (x.take (i + 1)) by rw [run_take _ _ _ _ ho, ← HR.out, hz])
                  have HO1 := Lib.hid (one_ok HO.out (by omega) o hdl)
                  rw [hz] at HO1
                  have hw : IntKind.i64.wrap ((i : Int) + 1) = (i : Int) + 1 := IntWalk.i64_in _ (by omega)
                  have d3 : decide ((i : Int) < (k : Int)) = true := decide_eq_true hki
                  clear hsc hde ho hz
                  obtain ⟨hbr, x0, x1, x2, x3, x4, x5⟩ := HSC.out _ (HF1.out.then_ S.out.fr)
                  have HONE := Lib.hid (sys_at S.out 3 rfl HO.out (by omega) o Ad cap dl HDE.out hbr hdl)
                  rw [HZ.out] at HONE
                  clear hbr
                  go_wp2_with fail
                  refine HONE.out.mono ?_
                  rintro e w11 ⟨rb5, rfl, hS⟩
                  have S5 := Lib.hid (show Sys w1 w11 [⟨g, ra, sb⟩, ⟨g2, rb, sb⟩, ⟨gc, rc, sc⟩, ⟨g4, rb5, t.1⟩] rbl (.slice A1 pn c1) s.ps from hS)
                  clear hS HONE x0 x1 x2 x3 x4 x5 S
                  go_wp2
                  go_roundw
                  case rel => exact ⟨i + 1, t.1, rb5, by omega, by go_num, S5, HR1, by show Okk ((i + 1 : Nat) : Int) t.1; exact HO1.out⟩
                  case measure => simp [intOf]; omega
                · obtain rfl : k = i := by omega
                  have d3 : decide ((k : Int) < (k : Int)) = false := decide_eq_false (by omega)
                  obtain rfl : s' = s := by
                    have := HR.out
                    rw [← HNX.out, List.take_length] at this
                    exact this.trans HRX.out.symm
                  have HL1 := Lib.hid (bList (H := No) (s := s') wr (S.out.bag 3 _ rfl) (by have := HO.out.lenN; omega) HO.out.small (fun _ _ q => q))
                  rw [HPN.out] at HL1
                  clear HR
                  go_wp2_with fail
                  refine HL1.out.mono ?_
                  rintro e w7 ⟨A2, c2, r2, rfl, hp2, hF7, hr2⟩
                  have S7 := Lib.hid (S.out.quiet hF7)
                  have HSP := Lib.hid (samePackets (H := No) (K := No) (ra := r2) (rb := rbl) s'.ps A2 A1 c2 c1 w7 (by rw [HPN.out]; exact hp2) (by rw [HPN.out]; exact S7.out.seen) HO.out.small)
                  rw [HPN.out] at HSP
                  clear hp2 hF7 hr2 S HL1
                  go_wp2_with fail
                  refine HSP.out.mono ?_
                  rintro e w8 ⟨rfl, hF8⟩
                  have S8 := Lib.hid (S7.out.quiet hF8)
                  clear hF8 S7 HSP
                  go_wp2
                  go_loopw [20] (fun i wr => ∃ (i' : Nat) (s4 : St) (rd : Option Nat), i' ≤ nz ∧ i = .int .i64 i' ∧ Hid (Sys w1 wr [⟨g, ra, sb⟩, ⟨g2, rb, sb⟩, ⟨gc, rc, sc⟩, ⟨g4, rd, s4⟩] rbl (.slice A1 pn c1) s'.ps) ∧ Hid (s4 = runS s' (z.take i')) ∧ Hid (Okk ((k : Int) + (i' : Int)) s4)) (fun i _ => nz - (intOf i).toNat)
                  case atStart => exact ⟨0, s', rd, Nat.zero_le _, rfl, S8, rfl, by show Okk ((k : Int) + ((0 : Nat) : Int)) s'; simp; exact HO.out⟩
                  case round =>
                    clear S8
                    obtain ⟨h, s4, rd, hh, rfl, S, HR, HO4⟩ := hrel
                    by_cases hlt : h < nz
                    · obtain ⟨ad, o, Ad, cap, dl, hde, rfl, ho, hdl, hsc⟩ := scr_at HC.out h (by rw [HNZ.out]; exact hlt)
                      have HSC := Lib.hid hsc
                      have HDE := Lib.hid hde
                      have hki : (h : Int) < (nz : Int) := by omega
                      obtain ⟨t, hz⟩ : ∃ t, oneS s4 o = t := ⟨_, rfl⟩
                      have HZ := Lib.hid hz
                      have HR1 := Lib.hid (show t.1 = runS s' (z.take (h + 1)) by rw [run_take _ _ _ _ ho, ← HR.out, hz])
                      have HO1 := Lib.hid (one_ok HO4.out (by omega) o hdl)
                      rw [hz] at HO1
                      have hw : IntKind.i64.wrap ((h : Int) + 1) = (h : Int) + 1 := IntWalk.i64_in _ (by omega)
                      have d4 : decide ((h : Int) < (nz : Int)) = true := decide_eq_true hki
                      clear hsc hde ho hz
                      obtain ⟨hbr, x0, x1, x2, x3, x4, x5⟩ := HSC.out _ (HF1.out.then_ S.out.fr)
                      have HONE := Lib.hid (sys_at S.out 3 rfl HO4.out (by omega) o Ad cap dl HDE.out hbr hdl)
                      rw [HZ.out] at HONE
                      clear hbr
                      go_wp2_with fail
                      refine HONE.out.mono ?_
                      rintro e w11 ⟨rb5, rfl, hS⟩
                      have S5 := Lib.hid (show Sys w1 w11 [⟨g, ra, sb⟩, ⟨g2, rb, sb⟩, ⟨gc, rc, sc⟩, ⟨g4, rb5, t.1⟩] rbl (.slice A1 pn c1) s'.ps from hS)
                      clear hS HONE x0 x1 x2 x3 x4 x5 S
                      go_wp2
                      go_roundw
                      case rel => exact ⟨h + 1, t.1, rb5, by omega, by go_num, S5, HR1, by show Okk ((k : Int) + ((h + 1 : Nat) : Int)) t.1; exact HO1.out.mono (by omega)⟩
                      case measure => simp [intOf]; omega
                    · obtain rfl : h = nz := by omega
                      have d4 : decide ((h : Int) < (h : Int)) = false := decide_eq_false (by omega)
                      obtain rfl : s4 = sc := by
                        have := HR.out
                        rw [← HNZ.out, List.take_length] at this
                        exact this.trans HRC.out.symm
                      have HL1 := Lib.hid (bList (H := No) (s := s4) wr (S.out.bag 3 _ rfl) (by have := HOC.out.lenN; omega) HOC.out.small (fun _ _ q => q))
                      obtain ⟨pc, hpc⟩ : ∃ pc, s4.ps.length = pc := ⟨_, rfl⟩
                      have HPC := Lib.hid hpc
                      rw [hpc] at HL1
                      clear hpc HR
                      go_wp2_with fail
                      refine HL1.out.mono ?_
                      rintro e w7 ⟨A2, c2, r2, rfl, hp2, hF7, hr2⟩
                      have S7 := Lib.hid (S.out.quiet hF7)
                      have HP2 := Lib.hid hp2
                      have HL2 := Lib.hid (bList (H := No) (s := s4) w7 (S7.out.bag 2 _ rfl) (by have := HOC.out.lenN; omega) HOC.out.small (fun _ _ q => q))
                      rw [HPC.out] at HL2
                      clear hp2 hF7 hr2 S HL1
                      go_wp2_with fail
                      refine HL2.out.mono ?_
                      rintro e w8 ⟨A3, c3, r3, rfl, hp3, hF8, hr3⟩
                      have S8 := Lib.hid (S7.out.quiet hF8)
                      have HSP := Lib.hid (samePackets (H := No) (K := No) (ra := r2) (rb := r3) s4.ps A2 A3 c2 c3 w8 (by rw [HPC.out]; exact HP2.out.below hF8.to) (by rw [HPC.out]; exact hp3) HOC.out.small)
                      rw [HPC.out] at HSP
                      clear hp3 hF8 hr3 S7 HL2 HP2
                      go_wp2_with fail
                      refine HSP.out.mono ?_
                      rintro e w9 ⟨rfl, hF9⟩
                      have S9 := Lib.hid (S8.out.quiet hF9)
                      clear hF9 S8 HSP
                      go_wp2
                      go_ret
                      exact ⟨rfl, HF1.out.then_ S9.out.fr⟩
end Go.Proofs.Ytilpffolldegbaa.Bg
