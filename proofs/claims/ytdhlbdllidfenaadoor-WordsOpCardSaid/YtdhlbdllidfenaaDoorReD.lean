/- Words: what the document's Result answers: walked. Conditions: none. -/
import Derived.Test.YtdhlbdllidfenaaDoorReC
namespace Go.Proofs.YtdhlbdllidfenaaDoor.Wd
open Go.RowKit Go.Proofs.YtdhlbdllidfenaaDoor.Mem
open Go.Proofs.YtdhlbdllidfenaaDoor.Nu (numL numE wNumber rNumber Vs num_dec num_is)
set_option linter.unusedVariables false
set_option linter.unusedSimpArgs false
theorem lit_row {w : World} {g n : Nat} {l : List (List UInt8)} (h : Bk w g 9 (l.map sv)) (hl : l.length = n) (hn : n ≤ 1000) : Row w 9 1 (some g) (.slice (some ⟨g, 0, none⟩) n n) n (l.map sv) :=
  Row.shut (sp := []) (by rw [List.append_nil]; exact h) (by rw [List.length_map, hl, Nat.mul_one]) (by simp) (Nat.le_refl _) (by unfold maxLen; omega)
theorem rCodes2 (w : World) : Calls Tryd.prog 35 #[] w fun e w' => ∃ g, e = .returned (.slice (some ⟨g, 0, none⟩) 5 5) ∧ Bk w' g 9 (codesL.map sv) ∧ Fr No w w' :=
  (rCodes w).mono fun e w' ⟨h1, h2, h3⟩ => ⟨_, h1, h2, h3⟩
theorem codes_at {w : World} {g k : Nat} (h : Bk w g 9 (codesL.map sv)) (hk : k < 5) : w.cell? ⟨g, k, none⟩ = some (sv (codesL.getD k [])) := by
  rw [h.cell k]
  match k, hk with
  | 0, _ => rfl
  | 1, _ => rfl
  | 2, _ => rfl
  | 3, _ => rfl
  | 4, _ => rfl
set_option maxHeartbeats 4000000 in
set_option maxRecDepth 100000 in
theorem rResult (x : RV) (A : Option Addr) (n c : Nat) (hl : x.items.length = n) (hn : n ≤ 8796093022000) (w : World) (hT : TR Any w A x.items) :
    Calls Tryd.prog 15 #[x.v A n c] w (Res w (resW x)) := by
  have HCK := Lib.hid (fun W (hW : Fr No w W) => rChkR x A n c hl hn W (hT.fr hW (fun _ _ _ q => q)))
  have HT := Lib.hid hT
  have HL := Lib.hid hl
  obtain ⟨code, num, items⟩ := x
  unfold RV.v at *
  dsimp only at *
  have HBX := Lib.hid (Bk.new w 28 [.int .i64 code, .int .i64 num, .slice A n c])
  clear hT
  by_cases hr : chkR ⟨code, num, items⟩ = 0
  · obtain ⟨c1, c2, c3, c4, c5, c6⟩ := chk_ok hr
    dsimp only at *
    obtain ⟨k, rfl⟩ : ∃ k : Nat, code = (k : Int) := ⟨code.toNat, by omega⟩
    obtain ⟨nn, rfl⟩ : ∃ nn : Nat, num = (nn : Int) := ⟨num.toNat, by omega⟩
    have hk5 : k < 5 := by omega
    have hk5i : (k : Int) < 5 := by omega
    have HRW := Lib.hid (show resW ⟨(k : Int), (nn : Int), items⟩ = if k = 0 then ([100, 111, 110, 101] :: Lib.decDigits nn :: Lib.decDigits n :: items, 0) else ([codesL.getD k []], 0) by
      unfold resW
      rw [if_neg (fun q => q hr)]
      dsimp only
      rw [Int.toNat_natCast, Int.toNat_natCast, hl]
      by_cases h : k = 0
      · rw [if_pos h, if_pos (by omega)]
      · rw [if_neg h, if_neg (by omega)])
    have hn8 : n ≤ 8 := by omega
    rw [hr] at HCK
    clear hr hl c3
    go_enter Tryd.func15, Tryd.ntmps15
    go_wp2_with fail
    refine (HCK.out _ ((Fr.refl _ _).alloc _)).mono ?_
    rintro e w2 ⟨rfl, hF2⟩
    have HB2 := Lib.hid (HBX.out.fr hF2 id)
    have HF2 := Lib.hid (((Fr.refl No w).alloc _).then_ hF2)
    obtain ⟨y0, y1, y2, yf⟩ := HB2.out.three
    obtain ⟨u, hu⟩ : ∃ u, codesL.getD k [] = u := ⟨_, rfl⟩
    have HU := Lib.hid hu
    clear hF2 HCK HBX hu
    go_wp2
    go_region_law (first | (go_simp; go_at_call 35; refine (rCodes2 _).mono ?_; rintro e w3 ⟨g3, rfl, hB3, hF3⟩; have hF3 : Fr No w2 w3 := ((Fr.refl No _).drew).then_ hF3; obtain ⟨p0, p1, p2, pf⟩ := (HB2.out.fr hF3 id).three; have hcd := codes_at hB3 hk5; rw [HU.out] at hcd; unfold sv at hcd; have hcd2 : w3.cell? ((⟨g3, 0, none⟩ : Addr).add k) = some (.string ⟨u.toArray⟩) := (by rw [add0]; exact hcd)))
    all_goals
      have HF3 := Lib.hid (HF2.out.then_ hF3)
      have HX4 := Lib.hid ((HB2.out.fr hF3 id).alloc (.cells ([u].map sv).toArray 9 (0, 0)))
      have HF4 := Lib.hid (HF3.out.alloc (.cells ([u].map sv).toArray 9 (0, 0)))
      have HR4 := Lib.hid (lit_row (n := 1) (Bk.new w3 9 ([u].map sv)) rfl (by omega))
      have HG4 := Lib.hid (show w.heap.size ≤ w3.heap.size from HF3.out.size)
      clear hF3 hB3 hcd hcd2 p0 p1 p2 pf y0 y1 y2 yf HB2
      have HWX := Lib.hid (show TBuf w (w3.alloc (.cells #[.string ⟨u.toArray⟩] 9 (0, 0))) (some w3.heap.size) (.slice (some ⟨w3.heap.size, 0, none⟩) 1 1) [u] from ⟨HR4.out, HF4.out, fun k hk => by cases hk; exact HG4.out⟩)
      have HX5 := Lib.hid (show Bk (w3.alloc (.cells #[.string ⟨u.toArray⟩] 9 (0, 0))) w.heap.size 28 [.int .i64 (k : Int), .int .i64 (nn : Int), .slice A n c] from HX4.out)
      clear HR4 HF4 HG4 HX4
      by_cases hk0 : k = 0
      · subst hk0
        have hud : u = [100, 111, 110, 101] := by rw [← HU.out]; rfl
        have HR := Lib.hid (show resW ⟨((0 : Nat) : Int), (nn : Int), items⟩ = (u :: Lib.decDigits nn :: Lib.decDigits n :: items, 0) by rw [HRW.out, if_pos rfl, hud])
        obtain ⟨dn, hdn⟩ : ∃ dn, Lib.decDigits nn = dn := ⟨_, rfl⟩
        obtain ⟨dl, hdl⟩ : ∃ dl, Lib.decDigits n = dl := ⟨_, rfl⟩
        have HI1 := Lib.hid (fun W => Nu.wDigits nn (by omega) W)
        have HI2 := Lib.hid (fun W => Nu.wDigits n (by omega) W)
        rw [hdn] at HI1
        rw [hdl] at HI2
        rw [hdn, hdl] at HR
        obtain ⟨y0, y1, y2, yf⟩ := HX5.out.three
        clear hdn hdl HRW HU hud HF3
        go_wp2
        generalize w3.alloc (.cells #[.string ⟨u.toArray⟩] 9 (0, 0)) = wx at *
        generalize w3.heap.size = g5 at *
        go_region_law (first | (go_simp; go_at_call 10; with_reducible refine (HI1.out _).mono ?_; rintro e w4 ⟨rfl, hF4⟩; have hF4 : Fr No wx w4 := (by first | exact ((Fr.refl No _).drew).then_ hF4 | exact hF5.then_ hF4); obtain ⟨p0, p1, p2, pf⟩ := (HX5.out.fr hF4 id).three) | (go_simp; go_at_call 10; with_reducible refine (HI2.out _).mono ?_; rintro e w5 ⟨rfl, hF5⟩; have hF5 : Fr No wx w5 := (by first | exact ((Fr.refl No _).drew).then_ hF5 | exact hF4.then_ hF5); obtain ⟨q0, q1, q2, qf⟩ := (HX5.out.fr hF5 id).three) | (refine st_append _ rfl (.tmp 21) (.tmp 29) 26 rfl 9 _ 1 16 Tryd.underlying26 infoStr rfl (by decide) (some g5) _ 1 ([u].map sv) rfl (HWX.out.row rfl (by first | exact hF5.alloc _ | exact hF4.alloc _)) _ 2 2 ([dn, dl].map sv) rfl rfl (fun _ => newTexts1 _ [dn, dl]) (sv_one _) (by unfold maxLen; omega) (by omega) ?_; intro A6 d6 w6 rb6 hrow6 hF6 hnb6; have HB6 := Lib.hid ((HWX.out.quiet (by first | exact hF5.alloc _ | exact hF4.alloc _)).grow (k := [dn, dl]) hrow6 rfl rfl hF6 hnb6); have HX6 := Lib.hid (Bk.fr (Bk.alloc (HX5.out.fr (by first | exact hF5 | exact hF4) id) _) hF6 (fun q => (Row.bt HWX.out.1 q).ne HX5.out.bt (by decide) rfl)); obtain ⟨r0, r1, r2, rf⟩ := HX6.out.three))
        all_goals
          obtain ⟨q, hq⟩ : ∃ q, 3 + n = q := ⟨_, rfl⟩
          have HLEN := Lib.hid (show (u :: dn :: dl :: items).length = q by simp only [List.length_cons]; rw [HL.out]; omega)
          clear hrow6 hF6 hnb6 HI1 HI2
          go_wp2_with (at_builtin; refine wl_append _ rfl (.tmp 31) (.tmp 33) 26 rfl 9 _ 1 16 Tryd.underlying26 infoStr rfl (by decide) rb6 _ 3 (([u] ++ [dn, dl]).map sv) rfl (HB6.out.row rfl (Fr.refl No _)) A n c (items.map sv) rfl (by rw [List.length_map, HL.out, Nat.mul_one]) (fun h => (HT.out.fr HB6.out.2.1 (fun _ _ _ q => q)).cells (by rw [HL.out]; exact h)) (sv_one _) (by unfold maxLen; omega) (by omega) ?_; rw [hq]; intro A7 d7 w7 rb7 hrow7 hF7 hnb7; have HB7 := Lib.hid (show TBuf w w7 rb7 (.slice A7 q d7) (([u] ++ [dn, dl]) ++ items) from HB6.out.grow (n := 3) (m := n) (k := items) (by rw [hq]; exact hrow7) rfl HL.out hF7 hnb7))
          go_ret2
          refine ⟨A7, d7, rb7, ?_, ?_⟩
          · rw [HR.out]
            show Ending.returned (.tuple #[.slice A7 q d7, .int .i64 0]) = Ending.returned (.tuple #[.slice A7 (u :: dn :: dl :: items).length d7, .int .i64 0])
            rw [HLEN.out]
          · rw [HR.out]
            show TBuf w w7 rb7 (.slice A7 (u :: dn :: dl :: items).length d7) _
            rw [HLEN.out]
            exact HB7.out
      · have HR := Lib.hid (show resW ⟨(k : Int), (nn : Int), items⟩ = ([u], 0) by rw [HRW.out, if_neg hk0, HU.out])
        have e1 : ((k : Int) != 0) = true := by rw [bne_iff_ne]; omega
        obtain ⟨y0, y1, y2, yf⟩ := HX5.out.three
        clear HRW HU
        go_wp2
        go_ret2
        refine ⟨some ⟨w3.heap.size, 0, none⟩, 1, some w3.heap.size, ?_, ?_⟩
        · rw [HR.out]; rfl
        · rw [HR.out]; exact HWX.out
  · obtain ⟨r, hrr⟩ : ∃ r, chkR ⟨code, num, items⟩ = r := ⟨_, rfl⟩
    have HRW := Lib.hid (show resW ⟨code, num, items⟩ = ([], r) by
      unfold resW
      rw [if_pos hr, hrr])
    rw [hrr] at HCK hr
    have e1 : (r != 0) = true := by rw [bne_iff_ne]; exact hr
    clear hr hl hrr
    go_enter Tryd.func15, Tryd.ntmps15
    go_wp2_with fail
    refine (HCK.out _ ((Fr.refl _ _).alloc _)).mono ?_
    rintro e w2 ⟨rfl, hF2⟩
    have HF2 := Lib.hid (((Fr.refl No w).alloc _).then_ hF2)
    clear hF2
    go_wp2
    go_ret2
    refine ⟨none, 0, none, ?_, ?_⟩
    · rw [HRW.out]; rfl
    · rw [HRW.out]; exact TBuf.nil_ HF2.out
end Go.Proofs.YtdhlbdllidfenaaDoor.Wd
