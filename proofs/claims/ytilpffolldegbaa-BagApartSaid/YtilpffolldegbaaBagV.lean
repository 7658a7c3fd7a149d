/- The law BagCounts: its walk. Conditions: none. -/
import Derived.Test.YtilpffolldegbaaBagU
namespace Go.Proofs.Ytilpffolldegbaa.Bg
open Go.RowKit Go.Proofs.Ytilpffolldegbaa.Mem
set_option linter.unusedVariables false
set_option linter.unusedSimpArgs false

def iv (l : List Int) : List Value := l.map fun x => .int .i64 x
theorem info3 : (Try.prog.info? 3).map (fun i => (i.zero, i.size, i.bytes)) = some (some (.int .i64 0), 1, 8) := by kernel_rfl
theorem OR.none (w : World) : OR w none [] := fun j o h => by simp at h
theorem Mine.rowfr {w : World} {g : Nat} {rb rbb : Option Nat} {s : St} {H : Nat → Prop} {w0 : World} (h : Mine H w0 w g rb s) {e size n : Nat} {v : Value} {xs : List Value} (hr : Row w e size rbb v n xs) (he : e ≠ 76) (he' : e ≠ 31) : ∀ k, rbb = some k → ¬ Sg g rb k := by
  intro k hk hs
  obtain ⟨v, hg, hp⟩ := h.bag
  have hb := hr.bt hk
  rcases hs with rfl | hs
  · exact absurd rfl (hb.ne hg.bt he)
  · exact absurd rfl (hb.ne (hp.bt hs) he')
theorem Mine.other {w0 w w1 : World} {g : Nat} {rb rbb : Option Nat} {s : St} {H : Nat → Prop} (h : Mine H w0 w g rb s) {e size n : Nat} {v : Value} {xs : List Value} (hr : Row w e size rbb v n xs) (he : e ≠ 76) (he' : e ≠ 31) (he8 : e ≠ 5)
    (hf : Fr (fun k => rbb = some k) w w1) (hn : ∀ q, rbb = some q → w0.heap.size ≤ q) : Mine H w0 w1 g rb s := by
  have hx := h.rowfr hr he he'
  exact ⟨h.bag.fr hf (fun q => hx g q (.inl rfl)) (fun k hk q => hx k q (.inr hk)) (fun k hk h8 => absurd rfl ((hr.bt hk).ne h8 he8)), h.fr.trans hf (fun q hq hk => by have := hn q hk; omega), h.hg, h.hr⟩
theorem beyond1 (A : Option Addr) (c : Nat) (x : List OpV) (w : World) (hA : OR w A x) (hx : x.length ≤ 4611686018427387904) (dx : ∀ o ∈ x, o.data.length ≤ 140737488355328) :
    Calls Try.prog 17 #[.slice A x.length c, .slice none 0 0, .slice none 0 0] w fun en w' => en = .returned (.bool (decide (2147483647 < tot x))) ∧ w' = w := by
  have h := beyond A none none c 0 0 x [] [] w hA (OR.none w) (OR.none w) hx (by simp) (by simp) dx (by simp) (by simp)
  rw [show tot x + tot [] + tot [] = tot x from rfl] at h
  exact h
theorem lay_room (s : St) (p : Pk) : (layS s p).1.room = s.room := by unfold layS; split <;> rfl
theorem one_room (s : St) (o : OpV) : (oneS s o).1.room = s.room := by
  unfold oneS addS takeS dupS flipS olderS
  repeat (first | rfl | exact lay_room _ _ | split)
set_option maxHeartbeats 4000000 in
set_option maxRecDepth 100000 in
theorem counts_walk (room : Int) (A : Option Addr) (c : Nat) (l : List OpV) (w : World) (hA : OR w A l) (hl : l.length ≤ 4611686018427387904) (hd : ∀ o ∈ l, o.data.length ≤ 140737488355328) :
    Calls Try.prog 5 #[.int .i64 room, .slice A l.length c] w fun e w' => e = .returned (.bool true) ∧ Fr No w w' := by
  have HA := Lib.hid hA
  have HD := Lib.hid hd
  have HBY := Lib.hid (beyond1 A c l w hA hl hd)
  have HLT := Lib.hid (tot_len l)
  obtain ⟨m, hm⟩ : ∃ m, l.length = m := ⟨_, rfl⟩
  have HM := Lib.hid hm
  rw [hm] at HBY hl ⊢
  clear hA hd hm
  by_cases hbig : 2147483647 < tot l
  · rw [decide_eq_true hbig] at HBY
    go_enter Try.func5, Try.ntmps5
    go_wp2_with fail
    refine HBY.out.mono ?_
    rintro e w1 ⟨rfl, rfl⟩
    go_wp2
    go_ret
    exact ⟨rfl, Fr.refl _ _⟩
  rw [decide_eq_false hbig] at HBY
  have hmb : m ≤ 2147483647 := by have := HLT.out; rw [HM.out] at this; omega
  clear hbig
  by_cases hroom : room < 1 ∨ 1024 < room
  · have HN := Lib.hid (fun W => bNew_no room W hroom)
    rcases hroom with hr | hr
    · have d1 : decide (room < 1) = true := decide_eq_true hr
      go_enter Try.func5, Try.ntmps5
      go_wp2_with fail
      refine HBY.out.mono ?_
      rintro e w1 ⟨rfl, rfl⟩
      go_wp2_with fail
      refine (shown _).mono ?_
      rintro e w2 ⟨rfl, hF2⟩
      go_wp2_with fail
      refine (HN.out _).mono ?_
      rintro e w3 ⟨rfl, rfl⟩
      go_wp2
      go_ret
      exact ⟨rfl, hF2⟩
    · have d1 : decide (room < 1) = false := decide_eq_false (by omega)
      have d2 : decide (1024 < room) = true := decide_eq_true hr
      go_enter Try.func5, Try.ntmps5
      go_wp2_with fail
      refine HBY.out.mono ?_
      rintro e w1 ⟨rfl, rfl⟩
      go_wp2_with fail
      refine (shown _).mono ?_
      rintro e w2 ⟨rfl, hF2⟩
      go_wp2_with fail
      refine (HN.out _).mono ?_
      rintro e w3 ⟨rfl, rfl⟩
      go_wp2
      go_ret
      exact ⟨rfl, hF2⟩
  · have hr0 : 1 ≤ room := by omega
    have hr1 : room ≤ 1024 := by omega
    have d1 : decide (room < 1) = false := decide_eq_false (by omega)
    have d2 : decide (1024 < room) = false := decide_eq_false (by omega)
    clear hroom
    go_enter Try.func5, Try.ntmps5
    go_wp2_with fail
    refine HBY.out.mono ?_
    rintro e w1 ⟨rfl, rfl⟩
    go_wp2_with fail
    refine (shown _).mono ?_
    rintro e w2 ⟨rfl, hF2⟩
    have HF2 := Lib.hid hF2
    clear hF2
    go_wp2_with fail
    refine (bNew No room w2 hr0 hr1).mono ?_
    rintro e w3 ⟨rfl, hB3, hF3⟩
    have M3 := Lib.hid ((Mine.new hB3 hF3 HF2.out).quiet ((Fr.refl No w3).alloc (.cells #[] 3 (0, 0))))
    obtain ⟨g, hg⟩ : ∃ g, w2.heap.size = g := ⟨_, rfl⟩
    rw [hg] at M3 ⊢
    have HR3 := Lib.hid (show Row (w3.alloc (.cells #[] 3 (0, 0))) 3 1 none (.slice (some ⟨w3.heap.size, 0, none⟩) 0 0) 0 (iv []) from Row.no _ _ _ _)
    have HI3 := Lib.hid (CInv.init room)
    have HO3 := Lib.hid (show Okk 0 ⟨room, 0, []⟩ from ⟨hr0, hr1, by simp; omega, by simp, by simp, fun p hp => by cases hp⟩)
    clear hB3 hF3 hg
    go_wp2
    go_loopw [7, 8, 9, 10, 11] (fun ld tk od bn i wr => ∃ (k : Nat) (s : St) (cn : Cnt) (rb rbb : Option Nat) (A' : Option Addr) (c' : Nat), k ≤ m ∧ i = .int .i64 k ∧ ld = .int .i64 cn.laid ∧ tk = .int .i64 cn.taken ∧ od = .int .i64 cn.olders ∧ bn = .slice A' cn.laid c' ∧ cn.laid ≤ k ∧ cn.taken ≤ k ∧ cn.olders ≤ k ∧
      Hid (s.room = room) ∧ Hid (Mine No w1 wr g rb s) ∧ Hid (Row wr 3 1 rbb (.slice A' cn.laid c') cn.laid (iv cn.born)) ∧ Hid (∀ q, rbb = some q → w1.heap.size ≤ q) ∧ Hid (CInv s cn) ∧ Hid (Okk (k : Int) s)) (fun _ _ _ _ i _ => m - (intOf i).toNat)
    case atStart => exact ⟨0, ⟨room, 0, []⟩, ⟨0, 0, 0, []⟩, none, none, some ⟨w3.heap.size, 0, none⟩, 0, Nat.zero_le _, rfl, rfl, rfl, rfl, rfl, Nat.le_refl _, Nat.le_refl _, Nat.le_refl _, rfl, M3, HR3, (fun q h => by cases h), HI3, HO3⟩
    case round =>
      clear M3 HR3 HI3 HO3
      obtain ⟨k, s, cn, rb, rbb, A', c', hk, rfl, rfl, rfl, rfl, rfl, hcl, hct, hco, HSR, M, HR, HRB, HI, HO⟩ := hrel
      by_cases hlt : k < m
      · have hkl : k < l.length := by rw [HM.out]; exact hlt
        obtain ⟨ad, Ad, cap, rfl, hlc, hbr, x0, x1, x2, x3, x4, x5⟩ := (HA.out.fr M.out.fr) k l[k] (List.getElem?_eq_getElem hkl)
        have hki : (k : Int) < (m : Int) := by omega
        have hdl := HD.out l[k] (List.getElem_mem _)
        generalize l[k] = o at *
        obtain ⟨z, hz⟩ : ∃ z, oneS s o = z := ⟨_, rfl⟩
        obtain ⟨w4, hw4⟩ : ∃ w4, wr.alloc (.cells #[.bool o.second, .int .i64 o.kind, .int .i64 o.a, .int .i64 o.b, .int .i64 o.y, .slice Ad o.data.length cap] 44 (0, 0)) = w4 := ⟨_, rfl⟩
        have hF4 : Fr No wr w4 := by rw [← hw4]; exact (Fr.refl _ _).alloc _
        have HX := Lib.hid (show Bk w4 wr.heap.size 44 [.bool o.second, .int .i64 o.kind, .int .i64 o.a, .int .i64 o.b, .int .i64 o.y, .slice Ad o.data.length cap] by rw [← hw4]; exact Bk.new _ _ _)
        have M4 := Lib.hid (M.out.quiet hF4)
        have HONE := Lib.hid (one (H := No) o Ad cap w4 (hbr.fr hF4 (fun _ _ _ q => q)) hdl (fun _ _ q => q) M4.out.bag HO.out (by omega))
        have HI1 := Lib.hid (one_inv HI.out o)
        have HO1 := Lib.hid (one_ok HO.out (by omega) o hdl)
        rw [hz] at HONE HI1 HO1
        have HSR1 : Hid (z.1.room = room) := by
          show _ = _
          rw [← hz, one_room]
          exact HSR.out
        have hcs := cstep_le cn o z.2
        have HR4 := Lib.hid (HR.out.fr hF4 (fun _ _ q => q))
        have HNS := Lib.hid (M4.out.rowfr HR4.out (by decide) (by decide))
        have HXS := Lib.hid (show ¬ Sg g rb wr.heap.size from fun h => Nat.lt_irrefl _ (M.out.bag.sgl _ h))
        have HW4 := Lib.hid hw4
        obtain ⟨z1, z2⟩ := z
        dsimp only at *
        unfold OpV.cells at HONE
        generalize o.data.length = dl at *
        clear hbr hlc hw4 hF4 hz M HR HI HO HSR
        go_wp2_with fail
        rw [HW4.out]
        refine HONE.out.mono ?_
        rintro e w5 ⟨rb', rfl, hB5, hF5, hn5⟩
        have M5 := Lib.hid (M4.out.step hB5 hF5 hn5)
        have HR5 := Lib.hid (HR4.out.fr hF5 HNS.out)
        have HX5 := Lib.hid (HX.out.fr hF5 HXS.out)
        obtain ⟨y0, y1, y2, y3, y4, y5, yf⟩ := HX5.out.six
        clear hB5 hF5 hn5 M4 HR4 HX HNS HXS HONE HW4
        by_cases hA : z2 = 0 ∧ (o.kind = 0 ∨ o.kind = 2)
        · obtain ⟨rfl, hA⟩ := hA
          rcases hA with KK | KK
          · have b0 : (o.kind == 0) = true := by rw [KK]; rfl
            have b1 : (o.kind == 1) = false := by rw [KK]; rfl
            have b4 : (o.kind == 4) = false := by rw [KK]; rfl
            have hcl2 : cstep cn o 0 = cn.lay := if_pos ⟨rfl, by omega⟩
            rw [hcl2] at HI1
            have hwl : IntKind.i64.wrap ((cn.laid : Int) + 1) = (cn.laid : Int) + 1 := IntWalk.i64_in _ (by omega)
            have hwk : IntKind.i64.wrap ((k : Int) + 1) = (k : Int) + 1 := IntWalk.i64_in _ (by omega)
            have hF6 : Fr No w5 (w5.alloc (.cells #[.int .i64 (cn.olders : Int)] 3 (0, 0))) := (Fr.refl _ _).alloc _
            have HR6 := Lib.hid (HR5.out.fr hF6 (fun _ _ q => q))
            have M6 := Lib.hid (M5.out.quiet hF6)
            have HX6 := Lib.hid (HX5.out.fr hF6 id)
            have HNEW := Lib.hid (fun (_ : 0 < 1) => show ∃ ad, some (⟨w5.heap.size, 0, none⟩ : Addr) = some ad ∧ ∀ (j : Nat) (u : Value), [Value.int .i64 (cn.olders : Int)][j]? = some u → (w5.alloc (.cells #[.int .i64 (cn.olders : Int)] 3 (0, 0))).cell? (ad.add j) = some u from
              ⟨_, rfl, fun j u hj => by rw [add0]; exact ((Bk.new w5 3 [Value.int .i64 (cn.olders : Int)]).cell j).trans hj⟩)
            have HF6 := Lib.hid hF6
            have HBL := Lib.hid (show (iv cn.born).length = cn.laid * 1 by have := HR6.out.len; exact this)
            have hlenb : cn.laid + 1 ≤ 2147483648 := by omega
            have HKK := Lib.hid KK
            clear hF6 hcs hcl2 HR5 KK M5 HX5
            go_wp2_with (at_builtin; refine wl_append _ rfl (.tmp 72) (.tmp 74) 53 rfl 3 _ 1 8 Try.underlying53 info3 rfl (by decide) rbb _ cn.laid (iv cn.born) rfl HR6.out (some ⟨w5.heap.size, 0, none⟩) 1 1 [Value.int .i64 (cn.olders : Int)] rfl rfl HNEW.out (by simp [Value.oneCell']) (by unfold maxLen; omega) (by omega) ?_; intro A6 c6 w6 rb6 hrow6 hF7 hnb6; obtain ⟨y0, y1, y2, y3, y4, y5, yf⟩ := (HX6.out.fr hF7 (fun q => absurd rfl ((HR6.out.bt q).ne HX6.out.bt (by decide)))).six)
            have M7 := Lib.hid (M6.out.other HR6.out (by decide) (by decide) (by decide) hF7 HRB.out)
            have HR7 := Lib.hid (show Row w6 3 1 rb6 (.slice A6 cn.lay.laid c6) cn.lay.laid (iv cn.lay.born) by
              show Row w6 3 1 rb6 (.slice A6 (cn.laid + 1) c6) (cn.laid + 1) (iv (cn.born ++ [(cn.olders : Int)]))
              unfold iv at hrow6 ⊢
              rw [List.map_append]
              exact hrow6)
            have HRB7 : Hid (∀ q, rb6 = some q → w1.heap.size ≤ q) := fun q hq => by
              rcases hnb6 with h | ⟨q', h, hle⟩
              · exact HRB.out q (by rw [← h]; exact hq)
              · rw [h] at hq
                cases hq
                exact Nat.le_trans M6.out.fr.size hle
            clear hrow6 hF7 hnb6 M6 HR6 HX6 HNEW HF6 HRB HBL
            go_roundw
            case rel => exact ⟨k + 1, z1, cn.lay, rb', rb6, A6, c6, by omega, by go_num, by show Value.int .i64 _ = .int .i64 ((cn.laid + 1 : Nat) : Int); go_num, rfl, rfl, rfl, by show cn.laid + 1 ≤ k + 1; omega, by show cn.taken ≤ k + 1; omega, by show cn.olders ≤ k + 1; omega, HSR1, M7, HR7, HRB7, HI1, by show Okk ((k + 1 : Nat) : Int) z1; exact HO1.out⟩
            case measure => simp [intOf]; omega
          · have b0 : (o.kind == 0) = false := by rw [KK]; rfl
            have b2 : (o.kind == 2) = true := by rw [KK]; rfl
            have b1 : (o.kind == 1) = false := by rw [KK]; rfl
            have b4 : (o.kind == 4) = false := by rw [KK]; rfl
            have hcl2 : cstep cn o 0 = cn.lay := if_pos ⟨rfl, by omega⟩
            rw [hcl2] at HI1
            have hwl : IntKind.i64.wrap ((cn.laid : Int) + 1) = (cn.laid : Int) + 1 := IntWalk.i64_in _ (by omega)
            have hwk : IntKind.i64.wrap ((k : Int) + 1) = (k : Int) + 1 := IntWalk.i64_in _ (by omega)
            have hF6 : Fr No w5 (w5.alloc (.cells #[.int .i64 (cn.olders : Int)] 3 (0, 0))) := (Fr.refl _ _).alloc _
            have HR6 := Lib.hid (HR5.out.fr hF6 (fun _ _ q => q))
            have M6 := Lib.hid (M5.out.quiet hF6)
            have HX6 := Lib.hid (HX5.out.fr hF6 id)
            have HNEW := Lib.hid (fun (_ : 0 < 1) => show ∃ ad, some (⟨w5.heap.size, 0, none⟩ : Addr) = some ad ∧ ∀ (j : Nat) (u : Value), [Value.int .i64 (cn.olders : Int)][j]? = some u → (w5.alloc (.cells #[.int .i64 (cn.olders : Int)] 3 (0, 0))).cell? (ad.add j) = some u from
              ⟨_, rfl, fun j u hj => by rw [add0]; exact ((Bk.new w5 3 [Value.int .i64 (cn.olders : Int)]).cell j).trans hj⟩)
            have HF6 := Lib.hid hF6
            have HBL := Lib.hid (show (iv cn.born).length = cn.laid * 1 by have := HR6.out.len; exact this)
            have hlenb : cn.laid + 1 ≤ 2147483648 := by omega
            have HKK := Lib.hid KK
            clear hF6 hcs hcl2 HR5 KK M5 HX5
            go_wp2_with (at_builtin; refine wl_append _ rfl (.tmp 72) (.tmp 74) 53 rfl 3 _ 1 8 Try.underlying53 info3 rfl (by decide) rbb _ cn.laid (iv cn.born) rfl HR6.out (some ⟨w5.heap.size, 0, none⟩) 1 1 [Value.int .i64 (cn.olders : Int)] rfl rfl HNEW.out (by simp [Value.oneCell']) (by unfold maxLen; omega) (by omega) ?_; intro A6 c6 w6 rb6 hrow6 hF7 hnb6; obtain ⟨y0, y1, y2, y3, y4, y5, yf⟩ := (HX6.out.fr hF7 (fun q => absurd rfl ((HR6.out.bt q).ne HX6.out.bt (by decide)))).six)
            have M7 := Lib.hid (M6.out.other HR6.out (by decide) (by decide) (by decide) hF7 HRB.out)
            have HR7 := Lib.hid (show Row w6 3 1 rb6 (.slice A6 cn.lay.laid c6) cn.lay.laid (iv cn.lay.born) by
              show Row w6 3 1 rb6 (.slice A6 (cn.laid + 1) c6) (cn.laid + 1) (iv (cn.born ++ [(cn.olders : Int)]))
              unfold iv at hrow6 ⊢
              rw [List.map_append]
              exact hrow6)
            have HRB7 : Hid (∀ q, rb6 = some q → w1.heap.size ≤ q) := fun q hq => by
              rcases hnb6 with h | ⟨q', h, hle⟩
              · exact HRB.out q (by rw [← h]; exact hq)
              · rw [h] at hq
                cases hq
                exact Nat.le_trans M6.out.fr.size hle
            clear hrow6 hF7 hnb6 M6 HR6 HX6 HNEW HF6 HRB HBL
            go_roundw
            case rel => exact ⟨k + 1, z1, cn.lay, rb', rb6, A6, c6, by omega, by go_num, by show Value.int .i64 _ = .int .i64 ((cn.laid + 1 : Nat) : Int); go_num, rfl, rfl, rfl, by show cn.laid + 1 ≤ k + 1; omega, by show cn.taken ≤ k + 1; omega, by show cn.olders ≤ k + 1; omega, HSR1, M7, HR7, HRB7, HI1, by show Okk ((k + 1 : Nat) : Int) z1; exact HO1.out⟩
            case measure => simp [intOf]; omega
        · by_cases hz0 : z2 = 0
          · subst hz0
            have hA' : ¬ (o.kind = 0 ∨ o.kind = 2) := fun h => hA ⟨rfl, h⟩
            have b0 : (o.kind == 0) = false := by simp; omega
            have b2 : (o.kind == 2) = false := by simp; omega
            by_cases k1 : o.kind = 1
            · have b1 : (o.kind == 1) = true := by simpa using k1
              have b4 : (o.kind == 4) = false := by rw [k1]; rfl
              have hcl2 : cstep cn o 0 = cn.take := by unfold cstep; rw [if_neg (fun h => hA' h.2), if_pos ⟨rfl, k1⟩]
              have hwt : IntKind.i64.wrap ((cn.taken : Int) + 1) = (cn.taken : Int) + 1 := IntWalk.i64_in _ (by omega)
              have hwk : IntKind.i64.wrap ((k : Int) + 1) = (k : Int) + 1 := IntWalk.i64_in _ (by omega)
              rw [hcl2] at HI1
              clear hcs hcl2 HX5
              go_wp2
              go_roundw
              case rel => exact ⟨k + 1, z1, cn.take, rb', rbb, A', c', by omega, by go_num, rfl, by show Value.int .i64 _ = .int .i64 ((cn.taken + 1 : Nat) : Int); go_num, rfl, rfl, by show cn.laid ≤ k + 1; omega, by show _ ≤ k + 1; first | omega | (show cn.taken + 1 ≤ k + 1; omega) | (show cn.taken ≤ k + 1; omega), by show _ ≤ k + 1; first | omega | (show cn.olders + 1 ≤ k + 1; omega) | (show cn.olders ≤ k + 1; omega), HSR1, M5, HR5, HRB, HI1, by show Okk ((k + 1 : Nat) : Int) z1; exact HO1.out⟩
              case measure => simp [intOf]; omega
            · have b1 : (o.kind == 1) = false := by simpa using k1
              by_cases k4 : o.kind = 4
              · have b4 : (o.kind == 4) = true := by simpa using k4
                have hcl2 : cstep cn o 0 = cn.older := by unfold cstep; rw [if_neg (fun h => hA' h.2), if_neg (fun h => k1 h.2), if_pos k4]
                have hwt : IntKind.i64.wrap ((cn.olders : Int) + 1) = (cn.olders : Int) + 1 := IntWalk.i64_in _ (by omega)
                have hwk : IntKind.i64.wrap ((k : Int) + 1) = (k : Int) + 1 := IntWalk.i64_in _ (by omega)
                rw [hcl2] at HI1
                clear hcs hcl2 HX5
                go_wp2
                go_roundw
                case rel => exact ⟨k + 1, z1, cn.older, rb', rbb, A', c', by omega, by go_num, rfl, rfl, by show Value.int .i64 _ = .int .i64 ((cn.olders + 1 : Nat) : Int); go_num, rfl, by show cn.laid ≤ k + 1; omega, by show _ ≤ k + 1; first | omega | (show cn.taken + 1 ≤ k + 1; omega) | (show cn.taken ≤ k + 1; omega), by show _ ≤ k + 1; first | omega | (show cn.olders + 1 ≤ k + 1; omega) | (show cn.olders ≤ k + 1; omega), HSR1, M5, HR5, HRB, HI1, by show Okk ((k + 1 : Nat) : Int) z1; exact HO1.out⟩
                case measure => simp [intOf]; omega
              · have b4 : (o.kind == 4) = false := by simpa using k4
                have hcl2 : cstep cn o 0 = cn := by unfold cstep; rw [if_neg (fun h => hA' h.2), if_neg (fun h => k1 h.2), if_neg k4]
                have hwk : IntKind.i64.wrap ((k : Int) + 1) = (k : Int) + 1 := IntWalk.i64_in _ (by omega)
                rw [hcl2] at HI1
                clear hcs hcl2 HX5
                go_wp2
                go_roundw
                case rel => exact ⟨k + 1, z1, cn, rb', rbb, A', c', by omega, by go_num, rfl, rfl, rfl, rfl, by show cn.laid ≤ k + 1; omega, by show _ ≤ k + 1; first | omega | (show cn.taken + 1 ≤ k + 1; omega) | (show cn.taken ≤ k + 1; omega), by show _ ≤ k + 1; first | omega | (show cn.olders + 1 ≤ k + 1; omega) | (show cn.olders ≤ k + 1; omega), HSR1, M5, HR5, HRB, HI1, by show Okk ((k + 1 : Nat) : Int) z1; exact HO1.out⟩
                case measure => simp [intOf]; omega
          · have bz : (z2 == 0) = false := by simpa using hz0
            by_cases k4 : o.kind = 4
            · have b4 : (o.kind == 4) = true := by simpa using k4
              have hcl2 : cstep cn o z2 = cn.older := by unfold cstep; rw [if_neg (fun h => hz0 h.1), if_neg (fun h => hz0 h.1), if_pos k4]
              have hwt : IntKind.i64.wrap ((cn.olders : Int) + 1) = (cn.olders : Int) + 1 := IntWalk.i64_in _ (by omega)
              have hwk : IntKind.i64.wrap ((k : Int) + 1) = (k : Int) + 1 := IntWalk.i64_in _ (by omega)
              rw [hcl2] at HI1
              clear hcs hcl2 HX5
              go_wp2
              go_roundw
              case rel => exact ⟨k + 1, z1, cn.older, rb', rbb, A', c', by omega, by go_num, rfl, rfl, by show Value.int .i64 _ = .int .i64 ((cn.olders + 1 : Nat) : Int); go_num, rfl, by show cn.laid ≤ k + 1; omega, by show _ ≤ k + 1; first | omega | (show cn.taken + 1 ≤ k + 1; omega) | (show cn.taken ≤ k + 1; omega), by show _ ≤ k + 1; first | omega | (show cn.olders + 1 ≤ k + 1; omega) | (show cn.olders ≤ k + 1; omega), HSR1, M5, HR5, HRB, HI1, by show Okk ((k + 1 : Nat) : Int) z1; exact HO1.out⟩
              case measure => simp [intOf]; omega
            · have b4 : (o.kind == 4) = false := by simpa using k4
              have hcl2 : cstep cn o z2 = cn := by unfold cstep; rw [if_neg (fun h => hz0 h.1), if_neg (fun h => hz0 h.1), if_neg k4]
              have hwk : IntKind.i64.wrap ((k : Int) + 1) = (k : Int) + 1 := IntWalk.i64_in _ (by omega)
              rw [hcl2] at HI1
              clear hcs hcl2 HX5
              go_wp2
              go_roundw
              case rel => exact ⟨k + 1, z1, cn, rb', rbb, A', c', by omega, by go_num, rfl, rfl, rfl, rfl, by show cn.laid ≤ k + 1; omega, by show _ ≤ k + 1; first | omega | (show cn.taken + 1 ≤ k + 1; omega) | (show cn.taken ≤ k + 1; omega), by show _ ≤ k + 1; first | omega | (show cn.olders + 1 ≤ k + 1; omega) | (show cn.olders ≤ k + 1; omega), HSR1, M5, HR5, HRB, HI1, by show Okk ((k + 1 : Nat) : Int) z1; exact HO1.out⟩
              case measure => simp [intOf]; omega
      · obtain rfl : k = m := by omega
        have hml : cn.laid ≤ 2147483648 := by omega
        have d0 : decide ((k : Int) < (k : Int)) = false := decide_eq_false (by omega)
        have HLI := Lib.hid (bList (H := No) (s := s) wr M.out.bag (by have := HO.out.lenN; omega) HO.out.small (fun _ _ q => q))
        have HN := Lib.hid (fun W hb => bLen (H := No) (g := g) (rb := rb) (s := s) W hb)
        obtain ⟨n, hn⟩ : ∃ n, s.ps.length = n := ⟨_, rfl⟩
        have HNL := Lib.hid hn
        rw [hn] at HLI HN
        have hmany : n + cn.taken = cn.laid := by have := HI.out.many; omega
        have hnr : (n : Int) ≤ room := by have h1 := HO.out.len; have h2 := HSR.out; omega
        clear hn hlt
        go_wp2_with fail
        refine HLI.out.mono ?_
        rintro e w5 ⟨AL, cL, rbl, rfl, hpl, hF5, hbl⟩
        have M5 := Lib.hid (M.out.quiet hF5)
        have HPL := Lib.hid hpl
        have HR5 := Lib.hid (HR.out.fr hF5 (fun _ _ q => q))
        clear hpl hF5 hbl M HR HLI
        go_wp2_with fail
        refine (HN.out _ M5.out.bag).mono ?_
        rintro e w6 ⟨rfl, rfl⟩
        have hs1 : IntKind.i64.wrap ((n : Int) + (cn.taken : Int)) = (cn.laid : Int) := by rw [IntWalk.i64_in _ (by omega)]; omega
        have hs2 : (n : Int) + (cn.taken : Int) = (cn.laid : Int) := by omega
        have hs3 : IntKind.i64.wrap (cn.laid : Int) = (cn.laid : Int) := IntWalk.i64_in _ (by omega)
        have d5 : decide (room < (n : Int)) = false := decide_eq_false (by omega)
        clear HN
        go_wp2
        clear hs1 hs2 hs3
        go_loopw [15, 16] (fun la i wx => ∃ (j : Nat) (q : Int), j ≤ n ∧ i = .int .i64 j ∧ la = .int .i64 q ∧ Hid (∀ h : j < s.ps.length, q < s.ps[j].num) ∧ Hid (Fr No w6 wx)) (fun _ i _ => n - (intOf i).toNat)
        case atStart => exact ⟨0, 0, Nat.zero_le _, rfl, rfl, (fun h => by have := (HI.out.pk _ (List.getElem_mem h)).1; omega), Fr.refl _ _⟩
        case round =>
          obtain ⟨j, q, hj, rfl, rfl, HQ, HFX⟩ := hrel
          by_cases hlt : j < n
          · have hjp : j < s.ps.length := by rw [HNL.out]; exact hlt
            obtain ⟨r, c2, A2, cap2, hr, hv, _, hl2, hA2, x0, x1, x2, x3, x4, x5, xf⟩ := (HPL.out.fr HFX.out (fun _ _ q => q) (fun _ q => q.elim)).at_ j hjp
            have hq := HQ.out hjp
            obtain ⟨p1, p2, p3⟩ := HI.out.pk s.ps[j] (List.getElem_mem _)
            have hag := (HO.out.pk s.ps[j] (List.getElem_mem _))
            have hnext : ∀ h : j + 1 < s.ps.length, s.ps[j].num < s.ps[j + 1].num := fun h => List.pairwise_iff_getElem.1 HI.out.rise j (j + 1) hjp h (by omega)
            have HNX := Lib.hid hnext
            obtain ⟨bb, c3, hrb, hv3, _, hcell, _⟩ := (HR5.out.fr HFX.out (fun _ _ q => q)).at_ (by omega)
            rw [HNL.out] at hv
            injection hv with e1 _ e3
            injection hv3 with e1' _ e3'
            subst e1 e3 e1' e3'
            obtain ⟨q0, hq0⟩ : ∃ q0 : Nat, s.ps[j].num = (q0 : Int) + 1 := ⟨(s.ps[j].num - 1).toNat, by omega⟩
            have hq0l : q0 < cn.born.length := by rw [HI.out.born]; omega
            have hb0 := hcell q0 (.int .i64 cn.born[q0]) (by simp [iv, hq0l])
            rw [show (s.ps[j].num - 1).toNat = q0 by omega, List.getD_eq_getElem?_getD, List.getElem?_eq_getElem hq0l, Option.getD_some] at p3
            have HLA : Hid (∀ h : j + 1 < s.ps.length, (q0 : Int) + 1 < s.ps[j + 1].num) := fun h => by rw [← hq0]; exact HNX.out h
            rw [hq0] at x0 hq p2
            obtain ⟨ag, hag'⟩ : ∃ ag, s.ps[j].age = ag := ⟨_, rfl⟩
            rw [hag'] at x3 hag p3
            generalize cn.born[q0] = bq at *
            have hsub : (cn.olders : Int) - bq = ag := by omega
            have hwag : IntKind.i64.wrap ag = ag := IntWalk.i64_in _ (by omega)
            have hw1 : IntKind.i64.wrap ((q0 : Int) + 1 - 1) = (q0 : Int) := by rw [IntWalk.i64_in _ (by omega)]; omega
            have hw2 : IntKind.i64.wrap (q0 : Int) = (q0 : Int) := IntWalk.i64_in _ (by omega)
            have e0 : decide ((q0 : Int) + 1 ≤ q) = false := decide_eq_false (by omega)
            have e1 : decide ((cn.laid : Int) < (q0 : Int) + 1) = false := decide_eq_false (by omega)
            have e2 : decide (cn.laid < q0 + 1) = false := decide_eq_false (by omega)
            have e3 : (ag != ag) = false := by simp
            have hql : (q0 : Int) < (cn.laid : Int) := by omega
            have hji : (j : Int) < (n : Int) := by omega
            have d6 : decide ((j : Int) < (n : Int)) = true := decide_eq_true hji
            have hwj : IntKind.i64.wrap ((j : Int) + 1) = (j : Int) + 1 := IntWalk.i64_in _ (by omega)
            clear hcell hnext HNX HQ hA2 hl2 xf x1 x2 x4 x5 hag hag' hq0 p1 p3 hq0l
            go_wp2
            go_quiet (fail)
            go_wp2
            go_roundw
            case rel => exact ⟨j + 1, (q0 : Int) + 1, by omega, by go_num, rfl, HLA, HFX.out.drewN _⟩
            case measure => simp [intOf]; omega
          · obtain rfl : j = n := by omega
            have d6 : decide ((j : Int) < (j : Int)) = false := decide_eq_false (by omega)
            go_wp2
            go_ret
            exact ⟨rfl, M5.out.fr.then_ HFX.out⟩
theorem counts_row (w : World) (room : Int) (_wr : (Lit.int .i64 room).wf = true) (A : Option Addr) (c : Nat) (l : List OpV) (hA : OR w A l ∧ ∀ o ∈ l, o.data.length ≤ 140737488351232) (hl : l.length ≤ c) (hc : c * 64 ≤ 140737488351232) :
    Calls Try.prog 5 #[.int .i64 room, .slice A l.length c] w fun e w' => e = .returned (.bool true) ∧ Below w.heap.size w w' :=
  (counts_walk room A c l w hA.1 (by omega) (fun o ho => by have := hA.2 o ho; omega)).mono fun _ _ ⟨h, h'⟩ => ⟨h, h'.to⟩
end Go.Proofs.Ytilpffolldegbaa.Bg
