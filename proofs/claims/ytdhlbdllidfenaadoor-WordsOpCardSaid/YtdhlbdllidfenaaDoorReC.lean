/- Words: a number written; what Result answers, and the document's: walked. Conditions: the codes' words and the library's tables lie as the program's text lays them. -/
import Derived.Test.YtdhlbdllidfenaaDoorReB
namespace Go.Proofs.YtdhlbdllidfenaaDoor.Wd
open Go.RowKit Go.Proofs.YtdhlbdllidfenaaDoor.Mem
open Go.Proofs.YtdhlbdllidfenaaDoor.Nu (numL numE wNumber rNumber Vs num_dec num_is)
set_option linter.unusedVariables false
set_option linter.unusedSimpArgs false
/-- the codes' words, as the program lays them -/
def Cd (w : World) : Prop := ∃ t fr, w.heap[0]? = some (.cells (codesL.map sv).toArray t fr)
theorem Cd.fr {w w1 : World} (h : Cd w) (hf : Fr No w w1) : Cd w1 := by
  obtain ⟨t, fr, h⟩ := h
  exact ⟨t, fr, (hf.block 0 (lt_of_some h) id).trans h⟩
theorem Cd.at_ {w : World} (h : Cd w) (k : Nat) (hk : k < 5) : w.cell? ⟨0, k, none⟩ = some (sv (codesL.getD k [])) := by
  obtain ⟨t, fr, h⟩ := h
  simp only [World.cell?, h]
  match k, hk with
  | 0, _ => rfl
  | 1, _ => rfl
  | 2, _ => rfl
  | 3, _ => rfl
  | 4, _ => rfl
theorem wItoa (n : Nat) (hn : n ≤ 9223372036854775807) (w : World) (hV : Vs w) : Calls Tryd.prog 30 #[.int .i64 (n : Int)] w fun e w' => e = .returned (.string ⟨(Lib.decDigits n).toArray⟩) ∧ Fr No w w' := by
  have h := Tryd.strconv_Itoa (n : Int) (by omega) (by omega) w hV.tab
  refine h.mono ?_
  rintro e w' ⟨rfl, hw⟩
  refine ⟨?_, ?_⟩
  · unfold Lib.itoa
    rw [if_neg (by omega), Int.toNat_natCast]
  · obtain ⟨k, os, rfl⟩ := hw
    exact Fr.of (Lib.below_grow _ _ (Nat.le_refl _) _ _) _
theorem newT (w : World) (l : List (List UInt8)) : TR Any (w.alloc (.cells (l.map sv).toArray 9 (0, 0))) (some ⟨w.heap.size, 0, none⟩) l := Bk.texts (Bk.new w 9 (l.map sv)) Any trivial
theorem TBuf.nil_ {w0 w : World} (hf : Fr No w0 w) : TBuf w0 w none (.slice none 0 0) [] := ⟨Row.nil _ _ _, hf, fun k hk => by cases hk⟩
/-- what Result answers -/
def Res (w0 : World) (R : List (List UInt8) × Int) (e : Ending) (w' : World) : Prop := ∃ A c rb, e = .returned (.tuple #[.slice A R.1.length c, .int .i64 R.2]) ∧ TBuf w0 w' rb (.slice A R.1.length c) R.1
set_option maxHeartbeats 4000000 in
set_option maxRecDepth 100000 in
theorem wResult (x : RV) (A : Option Addr) (n c : Nat) (hl : x.items.length = n) (hn : n ≤ 8796093022000) (w : World) (hT : TR Any w A x.items) (hV : Vs w) (hC : Cd w) :
    Calls Tryd.prog 20 #[x.v A n c] w (Res w (resW x)) := by
  have HCK := Lib.hid (fun W (hW : Fr No w W) => wChkR x A n c hl hn W (hT.fr hW (fun _ _ _ q => q)))
  have HT := Lib.hid hT
  have HV := Lib.hid hV
  have HC := Lib.hid hC
  have HL := Lib.hid hl
  obtain ⟨code, num, items⟩ := x
  unfold RV.v at *
  dsimp only at *
  have HBX := Lib.hid (Bk.new w 28 [.int .i64 code, .int .i64 num, .slice A n c])
  clear hT hV hC
  by_cases hr : chkR ⟨code, num, items⟩ = 0
  · obtain ⟨c1, c2, c3, c4, c5, c6⟩ := chk_ok hr
    dsimp only at *
    obtain ⟨k, rfl⟩ : ∃ k : Nat, code = (k : Int) := ⟨code.toNat, by omega⟩
    obtain ⟨nn, rfl⟩ : ∃ nn : Nat, num = (nn : Int) := ⟨num.toNat, by omega⟩
    have hk5 : k < 5 := by omega
    have hk5i : (k : Int) < 5 := by omega
    have HRW := Lib.hid (show resW ⟨(k : Int), (nn : Int), items⟩ = if k = 0 then ([100, 111, 110, 101] :: Lib.decDigits nn :: Lib.decDigits n :: items, 0) else ([codesL.getD k []], 0) by
      unfold resW
      rw [if_neg (fun q => q hr)]
      dsimp only
      rw [Int.toNat_natCast, Int.toNat_natCast, hl]
      by_cases h : k = 0
      · rw [if_pos h, if_pos (by omega)]
      · rw [if_neg h, if_neg (by omega)])
    have hn8 : n ≤ 8 := by omega
    rw [hr] at HCK
    clear hr hl c3
    go_enter Tryd.func20, Tryd.ntmps20
    go_wp2_with fail
    refine (HCK.out _ ((Fr.refl _ _).alloc _)).mono ?_
    rintro e w2 ⟨rfl, hF2⟩
    have HB2 := Lib.hid (HBX.out.fr hF2 id)
    have HF2 := Lib.hid (((Fr.refl No w).alloc _).then_ hF2)
    obtain ⟨y0, y1, y2, yf⟩ := HB2.out.three
    have hcd := (HC.out.fr HF2.out).at_ k hk5
    unfold sv at hcd
    obtain ⟨u, hu⟩ : ∃ u, codesL.getD k [] = u := ⟨_, rfl⟩
    have HU := Lib.hid hu
    rw [hu] at hcd
    clear hF2 HCK HBX hu
    have HP1 := Lib.hid (wPut none (some ⟨w2.heap.size, 0, none⟩) 0 0 1 1 1 none [] [u] rfl rfl rfl (by omega) w (w2.alloc (.cells ([u].map sv).toArray 9 (0, 0))) (TBuf.nil_ (HF2.out.alloc _)) (newT w2 [u]))
    go_wp2_with fail
    refine HP1.out.mono ?_
    rintro e w3 ⟨A3, d3, rb3, rfl, hB3, hF3⟩
    have HB3 := Lib.hid hB3
    have HX3 := Lib.hid ((HB2.out.alloc _).fr hF3 (fun q => by cases q))
    clear hB3 hF3 HP1 y0 y1 y2 yf hcd HB2 HF2
    obtain ⟨y0, y1, y2, yf⟩ := HX3.out.three
    by_cases hk0 : k = 0
    · subst hk0
      have HR := Lib.hid (show resW ⟨((0 : Nat) : Int), (nn : Int), items⟩ = ([100, 111, 110, 101] :: Lib.decDigits nn :: Lib.decDigits n :: items, 0) by rw [HRW.out, if_pos rfl])
      have hud : u = [100, 111, 110, 101] := by rw [← HU.out]; rfl
      subst hud
      have HI1 := Lib.hid (fun W (hW : Fr No w3 W) => wItoa nn (by omega) W (HV.out.fr (HB3.out.2.1.then_ hW)))
      have HI2 := Lib.hid (fun W (hW : Fr No w3 W) => wItoa n (by omega) W (HV.out.fr (HB3.out.2.1.then_ hW)))
      obtain ⟨dn, hdn⟩ : ∃ dn, Lib.decDigits nn = dn := ⟨_, rfl⟩
      obtain ⟨dl, hdl⟩ : ∃ dl, Lib.decDigits n = dl := ⟨_, rfl⟩
      rw [hdn] at HI1
      rw [hdl] at HI2
      rw [hdn, hdl] at HR
      have HP2 := Lib.hid (fun W (hW : Fr No w3 W) => wPut A3 (some ⟨W.heap.size, 0, none⟩) 1 d3 2 2 3 rb3 [[100, 111, 110, 101]] [dn, dl] rfl rfl rfl (by omega) w (W.alloc (.cells ([dn, dl].map sv).toArray 9 (0, 0))) (HB3.out.quiet (hW.alloc _)) (newT W [dn, dl]))
      clear hdn hdl HRW HU
      go_wp2
      go_region_law (first | (go_simp; go_at_call 30; refine (HI1.out _ (by first | exact (Fr.refl No _).drew | exact hF5)).mono ?_; rintro e w4 ⟨rfl, hF4⟩; have hF4 : Fr No w3 w4 := (by first | exact ((Fr.refl No _).drew).then_ hF4 | exact hF5.then_ hF4); obtain ⟨p0, p1, p2, pf⟩ := (HX3.out.fr hF4 id).three) | (go_simp; go_at_call 30; refine (HI2.out _ (by first | exact (Fr.refl No _).drew | exact hF4)).mono ?_; rintro e w5 ⟨rfl, hF5⟩; have hF5 : Fr No w3 w5 := (by first | exact ((Fr.refl No _).drew).then_ hF5 | exact hF4.then_ hF5); obtain ⟨q0, q1, q2, qf⟩ := (HX3.out.fr hF5 id).three) | (go_simp; go_at_call 38; refine (HP2.out _ (by first | exact hF5 | exact hF4)).mono ?_; rintro e w6 ⟨A6, d6, rb6, rfl, hB6, hF6⟩; have HB6 := Lib.hid hB6; have HX6 := Lib.hid (Bk.fr (Bk.alloc (HX3.out.fr (by first | exact hF5 | exact hF4) id) _) hF6 (fun q => (Row.bt HB3.out.1 q).ne HX3.out.bt (by decide) rfl)); obtain ⟨r0, r1, r2, rf⟩ := HX6.out.three))
      all_goals
        obtain ⟨q, hq⟩ : ∃ q, 3 + n = q := ⟨_, rfl⟩
        have HLEN := Lib.hid (show ([100, 111, 110, 101] :: dn :: dl :: items).length = q by simp only [List.length_cons]; rw [HL.out]; omega)
        have HP3 := Lib.hid (wPut A6 A 3 d6 n c q rb6 [[100, 111, 110, 101], dn, dl] items rfl HL.out hq (by omega) w w6 HB6.out (HT.out.fr HB6.out.2.1 (fun _ _ _ q => q)))
        clear HP2 HI1 HI2 hB6 hF6
        go_wp2_with fail
        refine HP3.out.mono ?_
        rintro e w7 ⟨A7, d7, rb7, rfl, hB7, hF7⟩
        have HB7 := Lib.hid hB7
        clear hB7 hF7 HP3 r0 r1 r2 rf hq
        go_wp2
        go_ret2
        refine ⟨A7, d7, rb7, ?_, ?_⟩
        · rw [HR.out]
          show Ending.returned (.tuple #[.slice A7 q d7, .int .i64 0]) = Ending.returned (.tuple #[.slice A7 ([100, 111, 110, 101] :: dn :: dl :: items).length d7, .int .i64 0])
          rw [HLEN.out]
        · rw [HR.out]
          show TBuf w w7 rb7 (.slice A7 ([100, 111, 110, 101] :: dn :: dl :: items).length d7) _
          rw [HLEN.out]
          exact HB7.out
    · have HR := Lib.hid (show resW ⟨(k : Int), (nn : Int), items⟩ = ([u], 0) by rw [HRW.out, if_neg hk0, HU.out])
      have e1 : ((k : Int) == 0) = false := by rw [beq_eq_false_iff_ne]; omega
      clear HRW HU
      go_wp2
      go_ret2
      refine ⟨A3, d3, rb3, ?_, ?_⟩
      · rw [HR.out]; rfl
      · rw [HR.out]; exact HB3.out
  · obtain ⟨r, hrr⟩ : ∃ r, chkR ⟨code, num, items⟩ = r := ⟨_, rfl⟩
    have HRW := Lib.hid (show resW ⟨code, num, items⟩ = ([], r) by
      unfold resW
      rw [if_pos hr, hrr])
    rw [hrr] at HCK hr
    have e1 : (r != 0) = true := by rw [bne_iff_ne]; exact hr
    clear hr hl hrr
    go_enter Tryd.func20, Tryd.ntmps20
    go_wp2_with fail
    refine (HCK.out _ ((Fr.refl _ _).alloc _)).mono ?_
    rintro e w2 ⟨rfl, hF2⟩
    have HF2 := Lib.hid (((Fr.refl No w).alloc _).then_ hF2)
    clear hF2
    go_wp2
    go_ret2
    refine ⟨none, 0, none, ?_, ?_⟩
    · rw [HRW.out]; rfl
    · rw [HRW.out]; exact TBuf.nil_ HF2.out
end Go.Proofs.YtdhlbdllidfenaaDoor.Wd
