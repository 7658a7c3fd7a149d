/- Words: what Op answers: walked (printed by a program of ours). Conditions: the tables lie as the program's text and the library lay them. -/
import Derived.Test.YtdhlbdllidfenaaDoorOpG
import Derived.Test.YtdhlbdllidfenaaDoorReC
namespace Go.Proofs.YtdhlbdllidfenaaDoor.Wd
open Go.RowKit Go.Proofs.YtdhlbdllidfenaaDoor.Mem
open Go.Proofs.YtdhlbdllidfenaaDoor.Nu (numL numE wNumber rNumber Vs num_dec num_is)
set_option linter.unusedVariables false
set_option linter.unusedSimpArgs false
theorem newT1 (w : World) {x : List UInt8} {q : ByteArray} (hq : (⟨x.toArray⟩ : ByteArray) = q) : TR Any (w.alloc (.cells #[.string q] 9 (0, 0))) (some ⟨w.heap.size, 0, none⟩) [x] := by subst hq; exact newT w [x]
set_option maxHeartbeats 4000000 in
set_option maxRecDepth 100000 in
theorem wCheck0 (o : OV) (hk : o.kind < 1 ∨ 8 < o.kind) (w : World) : Calls Tryd.prog 42 #[o.v] w fun e w' => e = .returned (.int .i64 (chkO o)) ∧ Fr No w w' := by
  have HR := Lib.hid (show chkO o = 50 by unfold chkO; rw [if_pos hk])
  have HS := Lib.hid (fun W => wShape0 o.kind hk W)
  obtain ⟨kind, name, text, num, most⟩ := o
  unfold OV.v
  dsimp only at *
  clear hk
  go_enter Tryd.func42, Tryd.ntmps42
  go_wp2_with fail
  refine (HS.out _).mono ?_
  rintro e w1 ⟨rfl, hF1⟩
  have HF1 := Lib.hid (((Fr.refl No w).alloc _).then_ hF1)
  clear hF1
  go_wp2
  go_ret
  refine ⟨by rw [HR.out]; rfl, ?_⟩
  first | exact HF1.out | exact HF1.out.alloc _
theorem wCheck (o : OV) (w : World) : Calls Tryd.prog 42 #[o.v] w fun e w' => e = .returned (.int .i64 (chkO o)) ∧ Fr No w w' := by
  by_cases h : o.kind < 1 ∨ 8 < o.kind
  · exact wCheck0 o h w
  · obtain ⟨k, hk⟩ : ∃ k : Nat, o.kind = (k : Int) := ⟨o.kind.toNat, by omega⟩
    have h1 : 1 ≤ k := by omega
    have h8 : k ≤ 8 := by omega
    match k, h1, h8, hk with
    | 1, _, _, hk => exact wCheck1 o hk w
    | 2, _, _, hk => exact wCheck2 o hk w
    | 3, _, _, hk => exact wCheck3 o hk w
    | 4, _, _, hk => exact wCheck4 o hk w
    | 5, _, _, hk => exact wCheck5 o hk w
    | 6, _, _, hk => exact wCheck6 o hk w
    | 7, _, _, hk => exact wCheck7 o hk w
    | 8, _, _, hk => exact wCheck8 o hk w
set_option maxHeartbeats 4000000 in
set_option maxRecDepth 100000 in
theorem wOp_err (o : OV) (ho : chkO o ≠ 0) (w : World) : Calls Tryd.prog 28 #[o.v] w (Res w (opW o)) := by
  have HRW := Lib.hid (show opW o = ([], chkO o) by unfold opW; rw [if_pos ho])
  have HCK := Lib.hid (fun W => wCheck o W)
  obtain ⟨r, hr⟩ : ∃ r, chkO o = r := ⟨_, rfl⟩
  rw [hr] at HRW HCK ho
  obtain ⟨kind, name, text, num, most⟩ := o
  unfold OV.v at *
  dsimp only at *
  have e1 : (r != 0) = true := by rw [bne_iff_ne]; exact ho
  clear hr ho
  go_enter Tryd.func28, Tryd.ntmps28
  go_wp2_with fail
  refine (HCK.out _).mono ?_
  rintro e w1 ⟨rfl, hF1⟩
  have HF1 := Lib.hid (((Fr.refl No w).alloc _).then_ hF1)
  clear hF1
  go_wp2
  go_ret2
  refine ⟨none, 0, none, ?_, ?_⟩
  · rw [HRW.out]; rfl
  · rw [HRW.out]; exact TBuf.nil_ HF1.out
set_option maxHeartbeats 8000000 in
set_option maxRecDepth 100000 in
theorem wOp1 (o : OV) (hk : o.kind = 1) (ho : chkO o = 0) (w : World) (hV : Vs w) (hC : Cf w) : Calls Tryd.prog 28 #[o.v] w (Res w (opW o)) := by
  obtain ⟨k0, g1, g2, g3, g4, g5, g6, g7, g8, g9, hn0, hn1, hm0, hm1⟩ := chk_op ho
  clear g1 g2 g3 g4 g5 g6 g7 g8 g9 k0
  have HCK := Lib.hid (fun W => wCheck o W)
  rw [ho] at HCK
  obtain ⟨kind, name, text, num, most⟩ := o
  dsimp only at *
  subst hk
  obtain ⟨nn, rfl⟩ : ∃ nn : Nat, num = (nn : Int) := ⟨num.toNat, by omega⟩
  obtain ⟨mm, rfl⟩ : ∃ mm : Nat, most = (mm : Int) := ⟨most.toNat, by omega⟩
  have HRW := Lib.hid (show opW ⟨1, name, text, (nn : Int), (mm : Int)⟩ = ([[109, 97, 107, 101], name], 0) by
    unfold opW
    rw [if_neg (fun q => q ho)]
    simp [fieldsW, hasT, hasK, kindsL])
  unfold OV.v sv at *
  dsimp only at *
  obtain ⟨nb, hnb⟩ : ∃ p : ByteArray, (⟨name.toArray⟩ : ByteArray) = p := ⟨_, rfl⟩
  obtain ⟨tb, htb⟩ : ∃ p : ByteArray, (⟨text.toArray⟩ : ByteArray) = p := ⟨_, rfl⟩
  rw [hnb, htb] at HCK ⊢
  have HNB := Lib.hid hnb
  have HTB := Lib.hid htb
  have HBX := Lib.hid (Bk.new w 44 [.int .i64 1, .string nb, .string tb, .int .i64 (nn : Int), .int .i64 (mm : Int)])
  have HV := Lib.hid hV
  have HC := Lib.hid hC
  clear hV hC hnb htb ho
  go_enter Tryd.func28, Tryd.ntmps28
  go_wp2_with fail
  refine (HCK.out _).mono ?_
  rintro e w1 ⟨rfl, hF1⟩
  have HB1 := Lib.hid (Bk.fr (S := No) HBX.out hF1 id)
  have HF1 := Lib.hid (((Fr.refl No w).alloc _).then_ hF1)
  obtain ⟨w2, hw2⟩ : ∃ w2, w1.alloc (.cells #[.string ⟨#[109, 97, 107, 101]⟩, .string ⟨#[110]⟩] 65 (0, 0)) = w2 := ⟨_, rfl⟩
  obtain ⟨bf, hbf⟩ : ∃ bf, w1.heap.size = bf := ⟨_, rfl⟩
  have HFM := Lib.hid (show Bk w2 bf 65 [.string ⟨#[109, 97, 107, 101]⟩, .string ⟨#[110]⟩] by rw [← hw2, ← hbf]; exact Bk.new w1 65 [.string ⟨#[109, 97, 107, 101]⟩, .string ⟨#[110]⟩])
  have HB2 := Lib.hid (show Bk w2 w.heap.size 44 [.int .i64 1, .string nb, .string tb, .int .i64 (nn : Int), .int .i64 (mm : Int)] by rw [← hw2]; exact HB1.out.alloc _)
  have HF2 := Lib.hid (show Fr No w w2 by rw [← hw2]; exact HF1.out.alloc _)
  have HW2 := Lib.hid hw2
  have HBF := Lib.hid hbf
  have hg0 : w1.cell? ⟨1, 2, none⟩ = some (.string ⟨#[109, 97, 107, 101]⟩) := (HC.out.fr HF1.out).at_ 2 (by omega)
  have hg1 : w1.cell? ⟨1, 3, none⟩ = some (.string ⟨#[110]⟩) := (HC.out.fr HF1.out).at_ 3 (by omega)
  obtain ⟨y0, y1, y2, y3, y4, yf⟩ := Bk.five HB1.out
  clear hF1 HCK HBX hw2 hbf
  go_upto_region 5 with (fail)
  rw [HW2.out, HBF.out]
  clear HW2 HBF y0 y1 y2 y3 y4 yf hg0 hg1
  obtain ⟨y0, y1, y2, y3, y4, yf⟩ := Bk.five HB2.out
  obtain ⟨f0, f1, ff⟩ := HFM.out.two
  have HP := Lib.hid (wPut none (some ⟨w2.heap.size, 0, none⟩) 0 0 1 1 1 none [] [[109, 97, 107, 101]] rfl rfl rfl (by omega) w (w2.alloc (.cells #[.string ⟨#[109, 97, 107, 101]⟩] 9 (0, 0))) (TBuf.nil_ (HF2.out.alloc _)) (newT1 w2 (x := [109, 97, 107, 101]) rfl))
  go_wp2_with fail
  refine HP.out.mono ?_
  rintro e v1 ⟨A1, d1, rb1, rfl, hB1, hF1⟩
  have HL1 := Lib.hid hB1
  have HX1 := Lib.hid (Bk.fr (HB2.out.alloc _) hF1 (fun q => by cases q))
  have HM1 := Lib.hid (Bk.fr (HFM.out.alloc _) hF1 (fun q => by cases q))
  clear hB1 hF1 HP y0 y1 y2 y3 y4 yf f0 f1 ff
  obtain ⟨y0, y1, y2, y3, y4, yf⟩ := Bk.five HX1.out
  obtain ⟨f0, f1, ff⟩ := HM1.out.two
  go_wp2
  refine wp_loop_rounds 2 ?_
  rw [rounds_succ]
  have HP := Lib.hid (wPut A1 (some ⟨v1.heap.size, 0, none⟩) 1 d1 1 1 2 rb1 ([] ++ [[109, 97, 107, 101]]) [name] rfl rfl rfl (by omega) w (v1.alloc (.cells #[.string nb] 9 (0, 0))) (HL1.out.quiet ((Fr.refl No v1).alloc _)) (newT1 v1 HNB.out))
  go_wp2_with fail
  refine HP.out.mono ?_
  rintro e v2 ⟨A2, d2, rb2, rfl, hB1, hF1⟩
  have HL2 := Lib.hid hB1
  have HX2 := Lib.hid (Bk.fr (HX1.out.alloc _) hF1 (fun q => (Row.bt HL1.out.1 q).ne HX1.out.bt (by decide) rfl))
  have HM2 := Lib.hid (Bk.fr (HM1.out.alloc _) hF1 (fun q => (Row.bt HL1.out.1 q).ne HM1.out.bt (by decide) rfl))
  clear hB1 hF1 HP
  try clear y0 y1 y2 y3 y4 yf f0 f1 ff
  obtain ⟨y0, y1, y2, y3, y4, yf⟩ := Bk.five HX2.out
  obtain ⟨f0, f1, ff⟩ := HM2.out.two
  go_wp2
  rw [rounds_succ]
  go_wp2
  go_ret2
  refine ⟨A2, d2, rb2, ?_, ?_⟩
  · rw [HRW.out]; rfl
  · rw [HRW.out]; exact HL2.out
set_option maxHeartbeats 8000000 in
set_option maxRecDepth 100000 in
theorem wOp2 (o : OV) (hk : o.kind = 2) (ho : chkO o = 0) (w : World) (hV : Vs w) (hC : Cf w) : Calls Tryd.prog 28 #[o.v] w (Res w (opW o)) := by
  obtain ⟨k0, g1, g2, g3, g4, g5, g6, g7, g8, g9, hn0, hn1, hm0, hm1⟩ := chk_op ho
  clear g1 g2 g3 g4 g5 g6 g7 g8 g9 k0
  have HCK := Lib.hid (fun W => wCheck o W)
  rw [ho] at HCK
  obtain ⟨kind, name, text, num, most⟩ := o
  dsimp only at *
  subst hk
  obtain ⟨nn, rfl⟩ : ∃ nn : Nat, num = (nn : Int) := ⟨num.toNat, by omega⟩
  obtain ⟨mm, rfl⟩ : ∃ mm : Nat, most = (mm : Int) := ⟨most.toNat, by omega⟩
  have HRW := Lib.hid (show opW ⟨2, name, text, (nn : Int), (mm : Int)⟩ = ([[100, 114, 111, 112], name], 0) by
    unfold opW
    rw [if_neg (fun q => q ho)]
    simp [fieldsW, hasT, hasK, kindsL])
  unfold OV.v sv at *
  dsimp only at *
  obtain ⟨nb, hnb⟩ : ∃ p : ByteArray, (⟨name.toArray⟩ : ByteArray) = p := ⟨_, rfl⟩
  obtain ⟨tb, htb⟩ : ∃ p : ByteArray, (⟨text.toArray⟩ : ByteArray) = p := ⟨_, rfl⟩
  rw [hnb, htb] at HCK ⊢
  have HNB := Lib.hid hnb
  have HTB := Lib.hid htb
  have HBX := Lib.hid (Bk.new w 44 [.int .i64 2, .string nb, .string tb, .int .i64 (nn : Int), .int .i64 (mm : Int)])
  have HV := Lib.hid hV
  have HC := Lib.hid hC
  clear hV hC hnb htb ho
  go_enter Tryd.func28, Tryd.ntmps28
  go_wp2_with fail
  refine (HCK.out _).mono ?_
  rintro e w1 ⟨rfl, hF1⟩
  have HB1 := Lib.hid (Bk.fr (S := No) HBX.out hF1 id)
  have HF1 := Lib.hid (((Fr.refl No w).alloc _).then_ hF1)
  obtain ⟨w2, hw2⟩ : ∃ w2, w1.alloc (.cells #[.string ⟨#[100, 114, 111, 112]⟩, .string ⟨#[110]⟩] 65 (0, 0)) = w2 := ⟨_, rfl⟩
  obtain ⟨bf, hbf⟩ : ∃ bf, w1.heap.size = bf := ⟨_, rfl⟩
  have HFM := Lib.hid (show Bk w2 bf 65 [.string ⟨#[100, 114, 111, 112]⟩, .string ⟨#[110]⟩] by rw [← hw2, ← hbf]; exact Bk.new w1 65 [.string ⟨#[100, 114, 111, 112]⟩, .string ⟨#[110]⟩])
  have HB2 := Lib.hid (show Bk w2 w.heap.size 44 [.int .i64 2, .string nb, .string tb, .int .i64 (nn : Int), .int .i64 (mm : Int)] by rw [← hw2]; exact HB1.out.alloc _)
  have HF2 := Lib.hid (show Fr No w w2 by rw [← hw2]; exact HF1.out.alloc _)
  have HW2 := Lib.hid hw2
  have HBF := Lib.hid hbf
  have hg0 : w1.cell? ⟨1, 4, none⟩ = some (.string ⟨#[100, 114, 111, 112]⟩) := (HC.out.fr HF1.out).at_ 4 (by omega)
  have hg1 : w1.cell? ⟨1, 5, none⟩ = some (.string ⟨#[110]⟩) := (HC.out.fr HF1.out).at_ 5 (by omega)
  obtain ⟨y0, y1, y2, y3, y4, yf⟩ := Bk.five HB1.out
  clear hF1 HCK HBX hw2 hbf
  go_upto_region 5 with (fail)
  rw [HW2.out, HBF.out]
  clear HW2 HBF y0 y1 y2 y3 y4 yf hg0 hg1
  obtain ⟨y0, y1, y2, y3, y4, yf⟩ := Bk.five HB2.out
  obtain ⟨f0, f1, ff⟩ := HFM.out.two
  have HP := Lib.hid (wPut none (some ⟨w2.heap.size, 0, none⟩) 0 0 1 1 1 none [] [[100, 114, 111, 112]] rfl rfl rfl (by omega) w (w2.alloc (.cells #[.string ⟨#[100, 114, 111, 112]⟩] 9 (0, 0))) (TBuf.nil_ (HF2.out.alloc _)) (newT1 w2 (x := [100, 114, 111, 112]) rfl))
  go_wp2_with fail
  refine HP.out.mono ?_
  rintro e v1 ⟨A1, d1, rb1, rfl, hB1, hF1⟩
  have HL1 := Lib.hid hB1
  have HX1 := Lib.hid (Bk.fr (HB2.out.alloc _) hF1 (fun q => by cases q))
  have HM1 := Lib.hid (Bk.fr (HFM.out.alloc _) hF1 (fun q => by cases q))
  clear hB1 hF1 HP y0 y1 y2 y3 y4 yf f0 f1 ff
  obtain ⟨y0, y1, y2, y3, y4, yf⟩ := Bk.five HX1.out
  obtain ⟨f0, f1, ff⟩ := HM1.out.two
  go_wp2
  refine wp_loop_rounds 2 ?_
  rw [rounds_succ]
  have HP := Lib.hid (wPut A1 (some ⟨v1.heap.size, 0, none⟩) 1 d1 1 1 2 rb1 ([] ++ [[100, 114, 111, 112]]) [name] rfl rfl rfl (by omega) w (v1.alloc (.cells #[.string nb] 9 (0, 0))) (HL1.out.quiet ((Fr.refl No v1).alloc _)) (newT1 v1 HNB.out))
  go_wp2_with fail
  refine HP.out.mono ?_
  rintro e v2 ⟨A2, d2, rb2, rfl, hB1, hF1⟩
  have HL2 := Lib.hid hB1
  have HX2 := Lib.hid (Bk.fr (HX1.out.alloc _) hF1 (fun q => (Row.bt HL1.out.1 q).ne HX1.out.bt (by decide) rfl))
  have HM2 := Lib.hid (Bk.fr (HM1.out.alloc _) hF1 (fun q => (Row.bt HL1.out.1 q).ne HM1.out.bt (by decide) rfl))
  clear hB1 hF1 HP
  try clear y0 y1 y2 y3 y4 yf f0 f1 ff
  obtain ⟨y0, y1, y2, y3, y4, yf⟩ := Bk.five HX2.out
  obtain ⟨f0, f1, ff⟩ := HM2.out.two
  go_wp2
  rw [rounds_succ]
  go_wp2
  go_ret2
  refine ⟨A2, d2, rb2, ?_, ?_⟩
  · rw [HRW.out]; rfl
  · rw [HRW.out]; exact HL2.out
set_option maxHeartbeats 8000000 in
set_option maxRecDepth 100000 in
theorem wOp3 (o : OV) (hk : o.kind = 3) (ho : chkO o = 0) (w : World) (hV : Vs w) (hC : Cf w) : Calls Tryd.prog 28 #[o.v] w (Res w (opW o)) := by
  obtain ⟨k0, g1, g2, g3, g4, g5, g6, g7, g8, g9, hn0, hn1, hm0, hm1⟩ := chk_op ho
  clear g1 g2 g3 g4 g5 g6 g7 g8 g9 k0
  have HCK := Lib.hid (fun W => wCheck o W)
  rw [ho] at HCK
  obtain ⟨kind, name, text, num, most⟩ := o
  dsimp only at *
  subst hk
  obtain ⟨nn, rfl⟩ : ∃ nn : Nat, num = (nn : Int) := ⟨num.toNat, by omega⟩
  obtain ⟨mm, rfl⟩ : ∃ mm : Nat, most = (mm : Int) := ⟨most.toNat, by omega⟩
  have HRW := Lib.hid (show opW ⟨3, name, text, (nn : Int), (mm : Int)⟩ = ([[112, 117, 115, 104], name, text], 0) by
    unfold opW
    rw [if_neg (fun q => q ho)]
    simp [fieldsW, hasT, hasK, kindsL])
  unfold OV.v sv at *
  dsimp only at *
  obtain ⟨nb, hnb⟩ : ∃ p : ByteArray, (⟨name.toArray⟩ : ByteArray) = p := ⟨_, rfl⟩
  obtain ⟨tb, htb⟩ : ∃ p : ByteArray, (⟨text.toArray⟩ : ByteArray) = p := ⟨_, rfl⟩
  rw [hnb, htb] at HCK ⊢
  have HNB := Lib.hid hnb
  have HTB := Lib.hid htb
  have HBX := Lib.hid (Bk.new w 44 [.int .i64 3, .string nb, .string tb, .int .i64 (nn : Int), .int .i64 (mm : Int)])
  have HV := Lib.hid hV
  have HC := Lib.hid hC
  clear hV hC hnb htb ho
  go_enter Tryd.func28, Tryd.ntmps28
  go_wp2_with fail
  refine (HCK.out _).mono ?_
  rintro e w1 ⟨rfl, hF1⟩
  have HB1 := Lib.hid (Bk.fr (S := No) HBX.out hF1 id)
  have HF1 := Lib.hid (((Fr.refl No w).alloc _).then_ hF1)
  obtain ⟨w2, hw2⟩ : ∃ w2, w1.alloc (.cells #[.string ⟨#[112, 117, 115, 104]⟩, .string ⟨#[110, 116]⟩] 65 (0, 0)) = w2 := ⟨_, rfl⟩
  obtain ⟨bf, hbf⟩ : ∃ bf, w1.heap.size = bf := ⟨_, rfl⟩
  have HFM := Lib.hid (show Bk w2 bf 65 [.string ⟨#[112, 117, 115, 104]⟩, .string ⟨#[110, 116]⟩] by rw [← hw2, ← hbf]; exact Bk.new w1 65 [.string ⟨#[112, 117, 115, 104]⟩, .string ⟨#[110, 116]⟩])
  have HB2 := Lib.hid (show Bk w2 w.heap.size 44 [.int .i64 3, .string nb, .string tb, .int .i64 (nn : Int), .int .i64 (mm : Int)] by rw [← hw2]; exact HB1.out.alloc _)
  have HF2 := Lib.hid (show Fr No w w2 by rw [← hw2]; exact HF1.out.alloc _)
  have HW2 := Lib.hid hw2
  have HBF := Lib.hid hbf
  have hg0 : w1.cell? ⟨1, 6, none⟩ = some (.string ⟨#[112, 117, 115, 104]⟩) := (HC.out.fr HF1.out).at_ 6 (by omega)
  have hg1 : w1.cell? ⟨1, 7, none⟩ = some (.string ⟨#[110, 116]⟩) := (HC.out.fr HF1.out).at_ 7 (by omega)
  obtain ⟨y0, y1, y2, y3, y4, yf⟩ := Bk.five HB1.out
  clear hF1 HCK HBX hw2 hbf
  go_upto_region 5 with (fail)
  rw [HW2.out, HBF.out]
  clear HW2 HBF y0 y1 y2 y3 y4 yf hg0 hg1
  obtain ⟨y0, y1, y2, y3, y4, yf⟩ := Bk.five HB2.out
  obtain ⟨f0, f1, ff⟩ := HFM.out.two
  have HP := Lib.hid (wPut none (some ⟨w2.heap.size, 0, none⟩) 0 0 1 1 1 none [] [[112, 117, 115, 104]] rfl rfl rfl (by omega) w (w2.alloc (.cells #[.string ⟨#[112, 117, 115, 104]⟩] 9 (0, 0))) (TBuf.nil_ (HF2.out.alloc _)) (newT1 w2 (x := [112, 117, 115, 104]) rfl))
  go_wp2_with fail
  refine HP.out.mono ?_
  rintro e v1 ⟨A1, d1, rb1, rfl, hB1, hF1⟩
  have HL1 := Lib.hid hB1
  have HX1 := Lib.hid (Bk.fr (HB2.out.alloc _) hF1 (fun q => by cases q))
  have HM1 := Lib.hid (Bk.fr (HFM.out.alloc _) hF1 (fun q => by cases q))
  clear hB1 hF1 HP y0 y1 y2 y3 y4 yf f0 f1 ff
  obtain ⟨y0, y1, y2, y3, y4, yf⟩ := Bk.five HX1.out
  obtain ⟨f0, f1, ff⟩ := HM1.out.two
  go_wp2
  refine wp_loop_rounds 3 ?_
  rw [rounds_succ]
  have HP := Lib.hid (wPut A1 (some ⟨v1.heap.size, 0, none⟩) 1 d1 1 1 2 rb1 ([] ++ [[112, 117, 115, 104]]) [name] rfl rfl rfl (by omega) w (v1.alloc (.cells #[.string nb] 9 (0, 0))) (HL1.out.quiet ((Fr.refl No v1).alloc _)) (newT1 v1 HNB.out))
  go_wp2_with fail
  refine HP.out.mono ?_
  rintro e v2 ⟨A2, d2, rb2, rfl, hB1, hF1⟩
  have HL2 := Lib.hid hB1
  have HX2 := Lib.hid (Bk.fr (HX1.out.alloc _) hF1 (fun q => (Row.bt HL1.out.1 q).ne HX1.out.bt (by decide) rfl))
  have HM2 := Lib.hid (Bk.fr (HM1.out.alloc _) hF1 (fun q => (Row.bt HL1.out.1 q).ne HM1.out.bt (by decide) rfl))
  clear hB1 hF1 HP
  try clear y0 y1 y2 y3 y4 yf f0 f1 ff
  obtain ⟨y0, y1, y2, y3, y4, yf⟩ := Bk.five HX2.out
  obtain ⟨f0, f1, ff⟩ := HM2.out.two
  go_wp2
  rw [rounds_succ]
  have HP := Lib.hid (wPut A2 (some ⟨v2.heap.size, 0, none⟩) 2 d2 1 1 3 rb2 (([] ++ [[112, 117, 115, 104]]) ++ [name]) [text] rfl rfl rfl (by omega) w (v2.alloc (.cells #[.string tb] 9 (0, 0))) (HL2.out.quiet ((Fr.refl No v2).alloc _)) (newT1 v2 HTB.out))
  go_wp2_with fail
  refine HP.out.mono ?_
  rintro e v3 ⟨A3, d3, rb3, rfl, hB1, hF1⟩
  have HL3 := Lib.hid hB1
  have HX3 := Lib.hid (Bk.fr (HX2.out.alloc _) hF1 (fun q => (Row.bt HL2.out.1 q).ne HX2.out.bt (by decide) rfl))
  have HM3 := Lib.hid (Bk.fr (HM2.out.alloc _) hF1 (fun q => (Row.bt HL2.out.1 q).ne HM2.out.bt (by decide) rfl))
  clear hB1 hF1 HP
  try clear y0 y1 y2 y3 y4 yf f0 f1 ff
  obtain ⟨y0, y1, y2, y3, y4, yf⟩ := Bk.five HX3.out
  obtain ⟨f0, f1, ff⟩ := HM3.out.two
  go_wp2
  rw [rounds_succ]
  go_wp2
  go_ret2
  refine ⟨A3, d3, rb3, ?_, ?_⟩
  · rw [HRW.out]; rfl
  · rw [HRW.out]; exact HL3.out
set_option maxHeartbeats 8000000 in
set_option maxRecDepth 100000 in
theorem wOp4 (o : OV) (hk : o.kind = 4) (ho : chkO o = 0) (w : World) (hV : Vs w) (hC : Cf w) : Calls Tryd.prog 28 #[o.v] w (Res w (opW o)) := by
  obtain ⟨k0, g1, g2, g3, g4, g5, g6, g7, g8, g9, hn0, hn1, hm0, hm1⟩ := chk_op ho
  clear g1 g2 g3 g4 g5 g6 g7 g8 g9 k0
  have HCK := Lib.hid (fun W => wCheck o W)
  rw [ho] at HCK
  obtain ⟨kind, name, text, num, most⟩ := o
  dsimp only at *
  subst hk
  obtain ⟨nn, rfl⟩ : ∃ nn : Nat, num = (nn : Int) := ⟨num.toNat, by omega⟩
  obtain ⟨mm, rfl⟩ : ∃ mm : Nat, most = (mm : Int) := ⟨most.toNat, by omega⟩
  have HRW := Lib.hid (show opW ⟨4, name, text, (nn : Int), (mm : Int)⟩ = ([[116, 114, 105, 109], name, Lib.decDigits nn], 0) by
    unfold opW
    rw [if_neg (fun q => q ho)]
    simp [fieldsW, hasT, hasK, kindsL])
  unfold OV.v sv at *
  dsimp only at *
  obtain ⟨nb, hnb⟩ : ∃ p : ByteArray, (⟨name.toArray⟩ : ByteArray) = p := ⟨_, rfl⟩
  obtain ⟨tb, htb⟩ : ∃ p : ByteArray, (⟨text.toArray⟩ : ByteArray) = p := ⟨_, rfl⟩
  rw [hnb, htb] at HCK ⊢
  have HNB := Lib.hid hnb
  have HTB := Lib.hid htb
  have HBX := Lib.hid (Bk.new w 44 [.int .i64 4, .string nb, .string tb, .int .i64 (nn : Int), .int .i64 (mm : Int)])
  have HV := Lib.hid hV
  have HC := Lib.hid hC
  clear hV hC hnb htb ho
  go_enter Tryd.func28, Tryd.ntmps28
  go_wp2_with fail
  refine (HCK.out _).mono ?_
  rintro e w1 ⟨rfl, hF1⟩
  have HB1 := Lib.hid (Bk.fr (S := No) HBX.out hF1 id)
  have HF1 := Lib.hid (((Fr.refl No w).alloc _).then_ hF1)
  obtain ⟨w2, hw2⟩ : ∃ w2, w1.alloc (.cells #[.string ⟨#[116, 114, 105, 109]⟩, .string ⟨#[110, 107]⟩] 65 (0, 0)) = w2 := ⟨_, rfl⟩
  obtain ⟨bf, hbf⟩ : ∃ bf, w1.heap.size = bf := ⟨_, rfl⟩
  have HFM := Lib.hid (show Bk w2 bf 65 [.string ⟨#[116, 114, 105, 109]⟩, .string ⟨#[110, 107]⟩] by rw [← hw2, ← hbf]; exact Bk.new w1 65 [.string ⟨#[116, 114, 105, 109]⟩, .string ⟨#[110, 107]⟩])
  have HB2 := Lib.hid (show Bk w2 w.heap.size 44 [.int .i64 4, .string nb, .string tb, .int .i64 (nn : Int), .int .i64 (mm : Int)] by rw [← hw2]; exact HB1.out.alloc _)
  have HF2 := Lib.hid (show Fr No w w2 by rw [← hw2]; exact HF1.out.alloc _)
  have HW2 := Lib.hid hw2
  have HBF := Lib.hid hbf
  have hg0 : w1.cell? ⟨1, 8, none⟩ = some (.string ⟨#[116, 114, 105, 109]⟩) := (HC.out.fr HF1.out).at_ 8 (by omega)
  have hg1 : w1.cell? ⟨1, 9, none⟩ = some (.string ⟨#[110, 107]⟩) := (HC.out.fr HF1.out).at_ 9 (by omega)
  obtain ⟨y0, y1, y2, y3, y4, yf⟩ := Bk.five HB1.out
  clear hF1 HCK HBX hw2 hbf
  go_upto_region 5 with (fail)
  rw [HW2.out, HBF.out]
  clear HW2 HBF y0 y1 y2 y3 y4 yf hg0 hg1
  obtain ⟨y0, y1, y2, y3, y4, yf⟩ := Bk.five HB2.out
  obtain ⟨f0, f1, ff⟩ := HFM.out.two
  have HP := Lib.hid (wPut none (some ⟨w2.heap.size, 0, none⟩) 0 0 1 1 1 none [] [[116, 114, 105, 109]] rfl rfl rfl (by omega) w (w2.alloc (.cells #[.string ⟨#[116, 114, 105, 109]⟩] 9 (0, 0))) (TBuf.nil_ (HF2.out.alloc _)) (newT1 w2 (x := [116, 114, 105, 109]) rfl))
  go_wp2_with fail
  refine HP.out.mono ?_
  rintro e v1 ⟨A1, d1, rb1, rfl, hB1, hF1⟩
  have HL1 := Lib.hid hB1
  have HX1 := Lib.hid (Bk.fr (HB2.out.alloc _) hF1 (fun q => by cases q))
  have HM1 := Lib.hid (Bk.fr (HFM.out.alloc _) hF1 (fun q => by cases q))
  clear hB1 hF1 HP y0 y1 y2 y3 y4 yf f0 f1 ff
  obtain ⟨y0, y1, y2, y3, y4, yf⟩ := Bk.five HX1.out
  obtain ⟨f0, f1, ff⟩ := HM1.out.two
  go_wp2
  refine wp_loop_rounds 3 ?_
  rw [rounds_succ]
  have HP := Lib.hid (wPut A1 (some ⟨v1.heap.size, 0, none⟩) 1 d1 1 1 2 rb1 ([] ++ [[116, 114, 105, 109]]) [name] rfl rfl rfl (by omega) w (v1.alloc (.cells #[.string nb] 9 (0, 0))) (HL1.out.quiet ((Fr.refl No v1).alloc _)) (newT1 v1 HNB.out))
  go_wp2_with fail
  refine HP.out.mono ?_
  rintro e v2 ⟨A2, d2, rb2, rfl, hB1, hF1⟩
  have HL2 := Lib.hid hB1
  have HX2 := Lib.hid (Bk.fr (HX1.out.alloc _) hF1 (fun q => (Row.bt HL1.out.1 q).ne HX1.out.bt (by decide) rfl))
  have HM2 := Lib.hid (Bk.fr (HM1.out.alloc _) hF1 (fun q => (Row.bt HL1.out.1 q).ne HM1.out.bt (by decide) rfl))
  clear hB1 hF1 HP
  try clear y0 y1 y2 y3 y4 yf f0 f1 ff
  obtain ⟨y0, y1, y2, y3, y4, yf⟩ := Bk.five HX2.out
  obtain ⟨f0, f1, ff⟩ := HM2.out.two
  go_wp2
  rw [rounds_succ]
  have HI2 := Lib.hid (wItoa nn (by omega) v2 (HV.out.fr HL2.out.2.1))
  obtain ⟨sb2, hsb2⟩ : ∃ p : ByteArray, (⟨(Lib.decDigits nn).toArray⟩ : ByteArray) = p := ⟨_, rfl⟩
  rw [hsb2] at HI2
  have HSB2 := Lib.hid hsb2
  clear hsb2
  go_wp2_with fail
  refine HI2.out.mono ?_
  rintro e u2 ⟨rfl, hFu⟩
  have HLu := Lib.hid (HL2.out.quiet hFu)
  have HXu := Lib.hid (HX2.out.fr hFu id)
  have HMu := Lib.hid (HM2.out.fr hFu id)
  clear hFu y0 y1 y2 y3 y4 yf f0 f1 ff
  have HP := Lib.hid (wPut A2 (some ⟨u2.heap.size, 0, none⟩) 2 d2 1 1 3 rb2 (([] ++ [[116, 114, 105, 109]]) ++ [name]) [Lib.decDigits nn] rfl rfl rfl (by omega) w (u2.alloc (.cells #[.string sb2] 9 (0, 0))) (HLu.out.quiet ((Fr.refl No u2).alloc _)) (newT1 u2 HSB2.out))
  go_wp2_with fail
  refine HP.out.mono ?_
  rintro e v3 ⟨A3, d3, rb3, rfl, hB1, hF1⟩
  have HL3 := Lib.hid hB1
  have HX3 := Lib.hid (Bk.fr (HXu.out.alloc _) hF1 (fun q => (Row.bt HLu.out.1 q).ne HXu.out.bt (by decide) rfl))
  have HM3 := Lib.hid (Bk.fr (HMu.out.alloc _) hF1 (fun q => (Row.bt HLu.out.1 q).ne HMu.out.bt (by decide) rfl))
  clear hB1 hF1 HP
  try clear y0 y1 y2 y3 y4 yf f0 f1 ff
  obtain ⟨y0, y1, y2, y3, y4, yf⟩ := Bk.five HX3.out
  obtain ⟨f0, f1, ff⟩ := HM3.out.two
  go_wp2
  rw [rounds_succ]
  go_wp2
  go_ret2
  refine ⟨A3, d3, rb3, ?_, ?_⟩
  · rw [HRW.out]; rfl
  · rw [HRW.out]; exact HL3.out
set_option maxHeartbeats 8000000 in
set_option maxRecDepth 100000 in
theorem wOp5 (o : OV) (hk : o.kind = 5) (ho : chkO o = 0) (w : World) (hV : Vs w) (hC : Cf w) : Calls Tryd.prog 28 #[o.v] w (Res w (opW o)) := by
  obtain ⟨k0, g1, g2, g3, g4, g5, g6, g7, g8, g9, hn0, hn1, hm0, hm1⟩ := chk_op ho
  clear g1 g2 g3 g4 g5 g6 g7 g8 g9 k0
  have HCK := Lib.hid (fun W => wCheck o W)
  rw [ho] at HCK
  obtain ⟨kind, name, text, num, most⟩ := o
  dsimp only at *
  subst hk
  obtain ⟨nn, rfl⟩ : ∃ nn : Nat, num = (nn : Int) := ⟨num.toNat, by omega⟩
  obtain ⟨mm, rfl⟩ : ∃ mm : Nat, most = (mm : Int) := ⟨most.toNat, by omega⟩
  have HRW := Lib.hid (show opW ⟨5, name, text, (nn : Int), (mm : Int)⟩ = ([[116, 97, 107, 101], name, text], 0) by
    unfold opW
    rw [if_neg (fun q => q ho)]
    simp [fieldsW, hasT, hasK, kindsL])
  unfold OV.v sv at *
  dsimp only at *
  obtain ⟨nb, hnb⟩ : ∃ p : ByteArray, (⟨name.toArray⟩ : ByteArray) = p := ⟨_, rfl⟩
  obtain ⟨tb, htb⟩ : ∃ p : ByteArray, (⟨text.toArray⟩ : ByteArray) = p := ⟨_, rfl⟩
  rw [hnb, htb] at HCK ⊢
  have HNB := Lib.hid hnb
  have HTB := Lib.hid htb
  have HBX := Lib.hid (Bk.new w 44 [.int .i64 5, .string nb, .string tb, .int .i64 (nn : Int), .int .i64 (mm : Int)])
  have HV := Lib.hid hV
  have HC := Lib.hid hC
  clear hV hC hnb htb ho
  go_enter Tryd.func28, Tryd.ntmps28
  go_wp2_with fail
  refine (HCK.out _).mono ?_
  rintro e w1 ⟨rfl, hF1⟩
  have HB1 := Lib.hid (Bk.fr (S := No) HBX.out hF1 id)
  have HF1 := Lib.hid (((Fr.refl No w).alloc _).then_ hF1)
  obtain ⟨w2, hw2⟩ : ∃ w2, w1.alloc (.cells #[.string ⟨#[116, 97, 107, 101]⟩, .string ⟨#[110, 116]⟩] 65 (0, 0)) = w2 := ⟨_, rfl⟩
  obtain ⟨bf, hbf⟩ : ∃ bf, w1.heap.size = bf := ⟨_, rfl⟩
  have HFM := Lib.hid (show Bk w2 bf 65 [.string ⟨#[116, 97, 107, 101]⟩, .string ⟨#[110, 116]⟩] by rw [← hw2, ← hbf]; exact Bk.new w1 65 [.string ⟨#[116, 97, 107, 101]⟩, .string ⟨#[110, 116]⟩])
  have HB2 := Lib.hid (show Bk w2 w.heap.size 44 [.int .i64 5, .string nb, .string tb, .int .i64 (nn : Int), .int .i64 (mm : Int)] by rw [← hw2]; exact HB1.out.alloc _)
  have HF2 := Lib.hid (show Fr No w w2 by rw [← hw2]; exact HF1.out.alloc _)
  have HW2 := Lib.hid hw2
  have HBF := Lib.hid hbf
  have hg0 : w1.cell? ⟨1, 10, none⟩ = some (.string ⟨#[116, 97, 107, 101]⟩) := (HC.out.fr HF1.out).at_ 10 (by omega)
  have hg1 : w1.cell? ⟨1, 11, none⟩ = some (.string ⟨#[110, 116]⟩) := (HC.out.fr HF1.out).at_ 11 (by omega)
  obtain ⟨y0, y1, y2, y3, y4, yf⟩ := Bk.five HB1.out
  clear hF1 HCK HBX hw2 hbf
  go_upto_region 5 with (fail)
  rw [HW2.out, HBF.out]
  clear HW2 HBF y0 y1 y2 y3 y4 yf hg0 hg1
  obtain ⟨y0, y1, y2, y3, y4, yf⟩ := Bk.five HB2.out
  obtain ⟨f0, f1, ff⟩ := HFM.out.two
  have HP := Lib.hid (wPut none (some ⟨w2.heap.size, 0, none⟩) 0 0 1 1 1 none [] [[116, 97, 107, 101]] rfl rfl rfl (by omega) w (w2.alloc (.cells #[.string ⟨#[116, 97, 107, 101]⟩] 9 (0, 0))) (TBuf.nil_ (HF2.out.alloc _)) (newT1 w2 (x := [116, 97, 107, 101]) rfl))
  go_wp2_with fail
  refine HP.out.mono ?_
  rintro e v1 ⟨A1, d1, rb1, rfl, hB1, hF1⟩
  have HL1 := Lib.hid hB1
  have HX1 := Lib.hid (Bk.fr (HB2.out.alloc _) hF1 (fun q => by cases q))
  have HM1 := Lib.hid (Bk.fr (HFM.out.alloc _) hF1 (fun q => by cases q))
  clear hB1 hF1 HP y0 y1 y2 y3 y4 yf f0 f1 ff
  obtain ⟨y0, y1, y2, y3, y4, yf⟩ := Bk.five HX1.out
  obtain ⟨f0, f1, ff⟩ := HM1.out.two
  go_wp2
  refine wp_loop_rounds 3 ?_
  rw [rounds_succ]
  have HP := Lib.hid (wPut A1 (some ⟨v1.heap.size, 0, none⟩) 1 d1 1 1 2 rb1 ([] ++ [[116, 97, 107, 101]]) [name] rfl rfl rfl (by omega) w (v1.alloc (.cells #[.string nb] 9 (0, 0))) (HL1.out.quiet ((Fr.refl No v1).alloc _)) (newT1 v1 HNB.out))
  go_wp2_with fail
  refine HP.out.mono ?_
  rintro e v2 ⟨A2, d2, rb2, rfl, hB1, hF1⟩
  have HL2 := Lib.hid hB1
  have HX2 := Lib.hid (Bk.fr (HX1.out.alloc _) hF1 (fun q => (Row.bt HL1.out.1 q).ne HX1.out.bt (by decide) rfl))
  have HM2 := Lib.hid (Bk.fr (HM1.out.alloc _) hF1 (fun q => (Row.bt HL1.out.1 q).ne HM1.out.bt (by decide) rfl))
  clear hB1 hF1 HP
  try clear y0 y1 y2 y3 y4 yf f0 f1 ff
  obtain ⟨y0, y1, y2, y3, y4, yf⟩ := Bk.five HX2.out
  obtain ⟨f0, f1, ff⟩ := HM2.out.two
  go_wp2
  rw [rounds_succ]
  have HP := Lib.hid (wPut A2 (some ⟨v2.heap.size, 0, none⟩) 2 d2 1 1 3 rb2 (([] ++ [[116, 97, 107, 101]]) ++ [name]) [text] rfl rfl rfl (by omega) w (v2.alloc (.cells #[.string tb] 9 (0, 0))) (HL2.out.quiet ((Fr.refl No v2).alloc _)) (newT1 v2 HTB.out))
  go_wp2_with fail
  refine HP.out.mono ?_
  rintro e v3 ⟨A3, d3, rb3, rfl, hB1, hF1⟩
  have HL3 := Lib.hid hB1
  have HX3 := Lib.hid (Bk.fr (HX2.out.alloc _) hF1 (fun q => (Row.bt HL2.out.1 q).ne HX2.out.bt (by decide) rfl))
  have HM3 := Lib.hid (Bk.fr (HM2.out.alloc _) hF1 (fun q => (Row.bt HL2.out.1 q).ne HM2.out.bt (by decide) rfl))
  clear hB1 hF1 HP
  try clear y0 y1 y2 y3 y4 yf f0 f1 ff
  obtain ⟨y0, y1, y2, y3, y4, yf⟩ := Bk.five HX3.out
  obtain ⟨f0, f1, ff⟩ := HM3.out.two
  go_wp2
  rw [rounds_succ]
  go_wp2
  go_ret2
  refine ⟨A3, d3, rb3, ?_, ?_⟩
  · rw [HRW.out]; rfl
  · rw [HRW.out]; exact HL3.out
set_option maxHeartbeats 8000000 in
set_option maxRecDepth 100000 in
theorem wOp6 (o : OV) (hk : o.kind = 6) (ho : chkO o = 0) (w : World) (hV : Vs w) (hC : Cf w) : Calls Tryd.prog 28 #[o.v] w (Res w (opW o)) := by
  obtain ⟨k0, g1, g2, g3, g4, g5, g6, g7, g8, g9, hn0, hn1, hm0, hm1⟩ := chk_op ho
  clear g1 g2 g3 g4 g5 g6 g7 g8 g9 k0
  have HCK := Lib.hid (fun W => wCheck o W)
  rw [ho] at HCK
  obtain ⟨kind, name, text, num, most⟩ := o
  dsimp only at *
  subst hk
  obtain ⟨nn, rfl⟩ : ∃ nn : Nat, num = (nn : Int) := ⟨num.toNat, by omega⟩
  obtain ⟨mm, rfl⟩ : ∃ mm : Nat, most = (mm : Int) := ⟨most.toNat, by omega⟩
  have HRW := Lib.hid (show opW ⟨6, name, text, (nn : Int), (mm : Int)⟩ = ([[114, 101, 97, 100], name, Lib.decDigits nn, Lib.decDigits mm], 0) by
    unfold opW
    rw [if_neg (fun q => q ho)]
    simp [fieldsW, hasT, hasK, kindsL])
  unfold OV.v sv at *
  dsimp only at *
  obtain ⟨nb, hnb⟩ : ∃ p : ByteArray, (⟨name.toArray⟩ : ByteArray) = p := ⟨_, rfl⟩
  obtain ⟨tb, htb⟩ : ∃ p : ByteArray, (⟨text.toArray⟩ : ByteArray) = p := ⟨_, rfl⟩
  rw [hnb, htb] at HCK ⊢
  have HNB := Lib.hid hnb
  have HTB := Lib.hid htb
  have HBX := Lib.hid (Bk.new w 44 [.int .i64 6, .string nb, .string tb, .int .i64 (nn : Int), .int .i64 (mm : Int)])
  have HV := Lib.hid hV
  have HC := Lib.hid hC
  clear hV hC hnb htb ho
  go_enter Tryd.func28, Tryd.ntmps28
  go_wp2_with fail
  refine (HCK.out _).mono ?_
  rintro e w1 ⟨rfl, hF1⟩
  have HB1 := Lib.hid (Bk.fr (S := No) HBX.out hF1 id)
  have HF1 := Lib.hid (((Fr.refl No w).alloc _).then_ hF1)
  obtain ⟨w2, hw2⟩ : ∃ w2, w1.alloc (.cells #[.string ⟨#[114, 101, 97, 100]⟩, .string ⟨#[110, 107, 109]⟩] 65 (0, 0)) = w2 := ⟨_, rfl⟩
  obtain ⟨bf, hbf⟩ : ∃ bf, w1.heap.size = bf := ⟨_, rfl⟩
  have HFM := Lib.hid (show Bk w2 bf 65 [.string ⟨#[114, 101, 97, 100]⟩, .string ⟨#[110, 107, 109]⟩] by rw [← hw2, ← hbf]; exact Bk.new w1 65 [.string ⟨#[114, 101, 97, 100]⟩, .string ⟨#[110, 107, 109]⟩])
  have HB2 := Lib.hid (show Bk w2 w.heap.size 44 [.int .i64 6, .string nb, .string tb, .int .i64 (nn : Int), .int .i64 (mm : Int)] by rw [← hw2]; exact HB1.out.alloc _)
  have HF2 := Lib.hid (show Fr No w w2 by rw [← hw2]; exact HF1.out.alloc _)
  have HW2 := Lib.hid hw2
  have HBF := Lib.hid hbf
  have hg0 : w1.cell? ⟨1, 12, none⟩ = some (.string ⟨#[114, 101, 97, 100]⟩) := (HC.out.fr HF1.out).at_ 12 (by omega)
  have hg1 : w1.cell? ⟨1, 13, none⟩ = some (.string ⟨#[110, 107, 109]⟩) := (HC.out.fr HF1.out).at_ 13 (by omega)
  obtain ⟨y0, y1, y2, y3, y4, yf⟩ := Bk.five HB1.out
  clear hF1 HCK HBX hw2 hbf
  go_upto_region 5 with (fail)
  rw [HW2.out, HBF.out]
  clear HW2 HBF y0 y1 y2 y3 y4 yf hg0 hg1
  obtain ⟨y0, y1, y2, y3, y4, yf⟩ := Bk.five HB2.out
  obtain ⟨f0, f1, ff⟩ := HFM.out.two
  have HP := Lib.hid (wPut none (some ⟨w2.heap.size, 0, none⟩) 0 0 1 1 1 none [] [[114, 101, 97, 100]] rfl rfl rfl (by omega) w (w2.alloc (.cells #[.string ⟨#[114, 101, 97, 100]⟩] 9 (0, 0))) (TBuf.nil_ (HF2.out.alloc _)) (newT1 w2 (x := [114, 101, 97, 100]) rfl))
  go_wp2_with fail
  refine HP.out.mono ?_
  rintro e v1 ⟨A1, d1, rb1, rfl, hB1, hF1⟩
  have HL1 := Lib.hid hB1
  have HX1 := Lib.hid (Bk.fr (HB2.out.alloc _) hF1 (fun q => by cases q))
  have HM1 := Lib.hid (Bk.fr (HFM.out.alloc _) hF1 (fun q => by cases q))
  clear hB1 hF1 HP y0 y1 y2 y3 y4 yf f0 f1 ff
  obtain ⟨y0, y1, y2, y3, y4, yf⟩ := Bk.five HX1.out
  obtain ⟨f0, f1, ff⟩ := HM1.out.two
  go_wp2
  refine wp_loop_rounds 4 ?_
  rw [rounds_succ]
  have HP := Lib.hid (wPut A1 (some ⟨v1.heap.size, 0, none⟩) 1 d1 1 1 2 rb1 ([] ++ [[114, 101, 97, 100]]) [name] rfl rfl rfl (by omega) w (v1.alloc (.cells #[.string nb] 9 (0, 0))) (HL1.out.quiet ((Fr.refl No v1).alloc _)) (newT1 v1 HNB.out))
  go_wp2_with fail
  refine HP.out.mono ?_
  rintro e v2 ⟨A2, d2, rb2, rfl, hB1, hF1⟩
  have HL2 := Lib.hid hB1
  have HX2 := Lib.hid (Bk.fr (HX1.out.alloc _) hF1 (fun q => (Row.bt HL1.out.1 q).ne HX1.out.bt (by decide) rfl))
  have HM2 := Lib.hid (Bk.fr (HM1.out.alloc _) hF1 (fun q => (Row.bt HL1.out.1 q).ne HM1.out.bt (by decide) rfl))
  clear hB1 hF1 HP
  try clear y0 y1 y2 y3 y4 yf f0 f1 ff
  obtain ⟨y0, y1, y2, y3, y4, yf⟩ := Bk.five HX2.out
  obtain ⟨f0, f1, ff⟩ := HM2.out.two
  go_wp2
  rw [rounds_succ]
  have HI2 := Lib.hid (wItoa nn (by omega) v2 (HV.out.fr HL2.out.2.1))
  obtain ⟨sb2, hsb2⟩ : ∃ p : ByteArray, (⟨(Lib.decDigits nn).toArray⟩ : ByteArray) = p := ⟨_, rfl⟩
  rw [hsb2] at HI2
  have HSB2 := Lib.hid hsb2
  clear hsb2
  go_wp2_with fail
  refine HI2.out.mono ?_
  rintro e u2 ⟨rfl, hFu⟩
  have HLu := Lib.hid (HL2.out.quiet hFu)
  have HXu := Lib.hid (HX2.out.fr hFu id)
  have HMu := Lib.hid (HM2.out.fr hFu id)
  clear hFu y0 y1 y2 y3 y4 yf f0 f1 ff
  have HP := Lib.hid (wPut A2 (some ⟨u2.heap.size, 0, none⟩) 2 d2 1 1 3 rb2 (([] ++ [[114, 101, 97, 100]]) ++ [name]) [Lib.decDigits nn] rfl rfl rfl (by omega) w (u2.alloc (.cells #[.string sb2] 9 (0, 0))) (HLu.out.quiet ((Fr.refl No u2).alloc _)) (newT1 u2 HSB2.out))
  go_wp2_with fail
  refine HP.out.mono ?_
  rintro e v3 ⟨A3, d3, rb3, rfl, hB1, hF1⟩
  have HL3 := Lib.hid hB1
  have HX3 := Lib.hid (Bk.fr (HXu.out.alloc _) hF1 (fun q => (Row.bt HLu.out.1 q).ne HXu.out.bt (by decide) rfl))
  have HM3 := Lib.hid (Bk.fr (HMu.out.alloc _) hF1 (fun q => (Row.bt HLu.out.1 q).ne HMu.out.bt (by decide) rfl))
  clear hB1 hF1 HP
  try clear y0 y1 y2 y3 y4 yf f0 f1 ff
  obtain ⟨y0, y1, y2, y3, y4, yf⟩ := Bk.five HX3.out
  obtain ⟨f0, f1, ff⟩ := HM3.out.two
  go_wp2
  rw [rounds_succ]
  have HI3 := Lib.hid (wItoa mm (by omega) v3 (HV.out.fr HL3.out.2.1))
  obtain ⟨sb3, hsb3⟩ : ∃ p : ByteArray, (⟨(Lib.decDigits mm).toArray⟩ : ByteArray) = p := ⟨_, rfl⟩
  rw [hsb3] at HI3
  have HSB3 := Lib.hid hsb3
  clear hsb3
  go_wp2_with fail
  refine HI3.out.mono ?_
  rintro e u3 ⟨rfl, hFu⟩
  have HLu := Lib.hid (HL3.out.quiet hFu)
  have HXu := Lib.hid (HX3.out.fr hFu id)
  have HMu := Lib.hid (HM3.out.fr hFu id)
  clear hFu y0 y1 y2 y3 y4 yf f0 f1 ff
  have HP := Lib.hid (wPut A3 (some ⟨u3.heap.size, 0, none⟩) 3 d3 1 1 4 rb3 ((([] ++ [[114, 101, 97, 100]]) ++ [name]) ++ [Lib.decDigits nn]) [Lib.decDigits mm] rfl rfl rfl (by omega) w (u3.alloc (.cells #[.string sb3] 9 (0, 0))) (HLu.out.quiet ((Fr.refl No u3).alloc _)) (newT1 u3 HSB3.out))
  go_wp2_with fail
  refine HP.out.mono ?_
  rintro e v4 ⟨A4, d4, rb4, rfl, hB1, hF1⟩
  have HL4 := Lib.hid hB1
  have HX4 := Lib.hid (Bk.fr (HXu.out.alloc _) hF1 (fun q => (Row.bt HLu.out.1 q).ne HXu.out.bt (by decide) rfl))
  have HM4 := Lib.hid (Bk.fr (HMu.out.alloc _) hF1 (fun q => (Row.bt HLu.out.1 q).ne HMu.out.bt (by decide) rfl))
  clear hB1 hF1 HP
  try clear y0 y1 y2 y3 y4 yf f0 f1 ff
  obtain ⟨y0, y1, y2, y3, y4, yf⟩ := Bk.five HX4.out
  obtain ⟨f0, f1, ff⟩ := HM4.out.two
  go_wp2
  rw [rounds_succ]
  go_wp2
  go_ret2
  refine ⟨A4, d4, rb4, ?_, ?_⟩
  · rw [HRW.out]; rfl
  · rw [HRW.out]; exact HL4.out
set_option maxHeartbeats 8000000 in
set_option maxRecDepth 100000 in
theorem wOp7 (o : OV) (hk : o.kind = 7) (ho : chkO o = 0) (w : World) (hV : Vs w) (hC : Cf w) : Calls Tryd.prog 28 #[o.v] w (Res w (opW o)) := by
  obtain ⟨k0, g1, g2, g3, g4, g5, g6, g7, g8, g9, hn0, hn1, hm0, hm1⟩ := chk_op ho
  clear g1 g2 g3 g4 g5 g6 g7 g8 g9 k0
  have HCK := Lib.hid (fun W => wCheck o W)
  rw [ho] at HCK
  obtain ⟨kind, name, text, num, most⟩ := o
  dsimp only at *
  subst hk
  obtain ⟨nn, rfl⟩ : ∃ nn : Nat, num = (nn : Int) := ⟨num.toNat, by omega⟩
  obtain ⟨mm, rfl⟩ : ∃ mm : Nat, most = (mm : Int) := ⟨most.toNat, by omega⟩
  have HRW := Lib.hid (show opW ⟨7, name, text, (nn : Int), (mm : Int)⟩ = ([[99, 111, 117, 110, 116], name], 0) by
    unfold opW
    rw [if_neg (fun q => q ho)]
    simp [fieldsW, hasT, hasK, kindsL])
  unfold OV.v sv at *
  dsimp only at *
  obtain ⟨nb, hnb⟩ : ∃ p : ByteArray, (⟨name.toArray⟩ : ByteArray) = p := ⟨_, rfl⟩
  obtain ⟨tb, htb⟩ : ∃ p : ByteArray, (⟨text.toArray⟩ : ByteArray) = p := ⟨_, rfl⟩
  rw [hnb, htb] at HCK ⊢
  have HNB := Lib.hid hnb
  have HTB := Lib.hid htb
  have HBX := Lib.hid (Bk.new w 44 [.int .i64 7, .string nb, .string tb, .int .i64 (nn : Int), .int .i64 (mm : Int)])
  have HV := Lib.hid hV
  have HC := Lib.hid hC
  clear hV hC hnb htb ho
  go_enter Tryd.func28, Tryd.ntmps28
  go_wp2_with fail
  refine (HCK.out _).mono ?_
  rintro e w1 ⟨rfl, hF1⟩
  have HB1 := Lib.hid (Bk.fr (S := No) HBX.out hF1 id)
  have HF1 := Lib.hid (((Fr.refl No w).alloc _).then_ hF1)
  obtain ⟨w2, hw2⟩ : ∃ w2, w1.alloc (.cells #[.string ⟨#[99, 111, 117, 110, 116]⟩, .string ⟨#[110]⟩] 65 (0, 0)) = w2 := ⟨_, rfl⟩
  obtain ⟨bf, hbf⟩ : ∃ bf, w1.heap.size = bf := ⟨_, rfl⟩
  have HFM := Lib.hid (show Bk w2 bf 65 [.string ⟨#[99, 111, 117, 110, 116]⟩, .string ⟨#[110]⟩] by rw [← hw2, ← hbf]; exact Bk.new w1 65 [.string ⟨#[99, 111, 117, 110, 116]⟩, .string ⟨#[110]⟩])
  have HB2 := Lib.hid (show Bk w2 w.heap.size 44 [.int .i64 7, .string nb, .string tb, .int .i64 (nn : Int), .int .i64 (mm : Int)] by rw [← hw2]; exact HB1.out.alloc _)
  have HF2 := Lib.hid (show Fr No w w2 by rw [← hw2]; exact HF1.out.alloc _)
  have HW2 := Lib.hid hw2
  have HBF := Lib.hid hbf
  have hg0 : w1.cell? ⟨1, 14, none⟩ = some (.string ⟨#[99, 111, 117, 110, 116]⟩) := (HC.out.fr HF1.out).at_ 14 (by omega)
  have hg1 : w1.cell? ⟨1, 15, none⟩ = some (.string ⟨#[110]⟩) := (HC.out.fr HF1.out).at_ 15 (by omega)
  obtain ⟨y0, y1, y2, y3, y4, yf⟩ := Bk.five HB1.out
  clear hF1 HCK HBX hw2 hbf
  go_upto_region 5 with (fail)
  rw [HW2.out, HBF.out]
  clear HW2 HBF y0 y1 y2 y3 y4 yf hg0 hg1
  obtain ⟨y0, y1, y2, y3, y4, yf⟩ := Bk.five HB2.out
  obtain ⟨f0, f1, ff⟩ := HFM.out.two
  have HP := Lib.hid (wPut none (some ⟨w2.heap.size, 0, none⟩) 0 0 1 1 1 none [] [[99, 111, 117, 110, 116]] rfl rfl rfl (by omega) w (w2.alloc (.cells #[.string ⟨#[99, 111, 117, 110, 116]⟩] 9 (0, 0))) (TBuf.nil_ (HF2.out.alloc _)) (newT1 w2 (x := [99, 111, 117, 110, 116]) rfl))
  go_wp2_with fail
  refine HP.out.mono ?_
  rintro e v1 ⟨A1, d1, rb1, rfl, hB1, hF1⟩
  have HL1 := Lib.hid hB1
  have HX1 := Lib.hid (Bk.fr (HB2.out.alloc _) hF1 (fun q => by cases q))
  have HM1 := Lib.hid (Bk.fr (HFM.out.alloc _) hF1 (fun q => by cases q))
  clear hB1 hF1 HP y0 y1 y2 y3 y4 yf f0 f1 ff
  obtain ⟨y0, y1, y2, y3, y4, yf⟩ := Bk.five HX1.out
  obtain ⟨f0, f1, ff⟩ := HM1.out.two
  go_wp2
  refine wp_loop_rounds 2 ?_
  rw [rounds_succ]
  have HP := Lib.hid (wPut A1 (some ⟨v1.heap.size, 0, none⟩) 1 d1 1 1 2 rb1 ([] ++ [[99, 111, 117, 110, 116]]) [name] rfl rfl rfl (by omega) w (v1.alloc (.cells #[.string nb] 9 (0, 0))) (HL1.out.quiet ((Fr.refl No v1).alloc _)) (newT1 v1 HNB.out))
  go_wp2_with fail
  refine HP.out.mono ?_
  rintro e v2 ⟨A2, d2, rb2, rfl, hB1, hF1⟩
  have HL2 := Lib.hid hB1
  have HX2 := Lib.hid (Bk.fr (HX1.out.alloc _) hF1 (fun q => (Row.bt HL1.out.1 q).ne HX1.out.bt (by decide) rfl))
  have HM2 := Lib.hid (Bk.fr (HM1.out.alloc _) hF1 (fun q => (Row.bt HL1.out.1 q).ne HM1.out.bt (by decide) rfl))
  clear hB1 hF1 HP
  try clear y0 y1 y2 y3 y4 yf f0 f1 ff
  obtain ⟨y0, y1, y2, y3, y4, yf⟩ := Bk.five HX2.out
  obtain ⟨f0, f1, ff⟩ := HM2.out.two
  go_wp2
  rw [rounds_succ]
  go_wp2
  go_ret2
  refine ⟨A2, d2, rb2, ?_, ?_⟩
  · rw [HRW.out]; rfl
  · rw [HRW.out]; exact HL2.out
set_option maxHeartbeats 8000000 in
set_option maxRecDepth 100000 in
theorem wOp8 (o : OV) (hk : o.kind = 8) (ho : chkO o = 0) (w : World) (hV : Vs w) (hC : Cf w) : Calls Tryd.prog 28 #[o.v] w (Res w (opW o)) := by
  obtain ⟨k0, g1, g2, g3, g4, g5, g6, g7, g8, g9, hn0, hn1, hm0, hm1⟩ := chk_op ho
  clear g1 g2 g3 g4 g5 g6 g7 g8 g9 k0
  have HCK := Lib.hid (fun W => wCheck o W)
  rw [ho] at HCK
  obtain ⟨kind, name, text, num, most⟩ := o
  dsimp only at *
  subst hk
  obtain ⟨nn, rfl⟩ : ∃ nn : Nat, num = (nn : Int) := ⟨num.toNat, by omega⟩
  obtain ⟨mm, rfl⟩ : ∃ mm : Nat, most = (mm : Int) := ⟨most.toNat, by omega⟩
  have HRW := Lib.hid (show opW ⟨8, name, text, (nn : Int), (mm : Int)⟩ = ([[108, 105, 115, 116]], 0) by
    unfold opW
    rw [if_neg (fun q => q ho)]
    simp [fieldsW, hasT, hasK, kindsL])
  unfold OV.v sv at *
  dsimp only at *
  obtain ⟨nb, hnb⟩ : ∃ p : ByteArray, (⟨name.toArray⟩ : ByteArray) = p := ⟨_, rfl⟩
  obtain ⟨tb, htb⟩ : ∃ p : ByteArray, (⟨text.toArray⟩ : ByteArray) = p := ⟨_, rfl⟩
  rw [hnb, htb] at HCK ⊢
  have HNB := Lib.hid hnb
  have HTB := Lib.hid htb
  have HBX := Lib.hid (Bk.new w 44 [.int .i64 8, .string nb, .string tb, .int .i64 (nn : Int), .int .i64 (mm : Int)])
  have HV := Lib.hid hV
  have HC := Lib.hid hC
  clear hV hC hnb htb ho
  go_enter Tryd.func28, Tryd.ntmps28
  go_wp2_with fail
  refine (HCK.out _).mono ?_
  rintro e w1 ⟨rfl, hF1⟩
  have HB1 := Lib.hid (Bk.fr (S := No) HBX.out hF1 id)
  have HF1 := Lib.hid (((Fr.refl No w).alloc _).then_ hF1)
  obtain ⟨w2, hw2⟩ : ∃ w2, w1.alloc (.cells #[.string ⟨#[108, 105, 115, 116]⟩, .string ⟨#[]⟩] 65 (0, 0)) = w2 := ⟨_, rfl⟩
  obtain ⟨bf, hbf⟩ : ∃ bf, w1.heap.size = bf := ⟨_, rfl⟩
  have HFM := Lib.hid (show Bk w2 bf 65 [.string ⟨#[108, 105, 115, 116]⟩, .string ⟨#[]⟩] by rw [← hw2, ← hbf]; exact Bk.new w1 65 [.string ⟨#[108, 105, 115, 116]⟩, .string ⟨#[]⟩])
  have HB2 := Lib.hid (show Bk w2 w.heap.size 44 [.int .i64 8, .string nb, .string tb, .int .i64 (nn : Int), .int .i64 (mm : Int)] by rw [← hw2]; exact HB1.out.alloc _)
  have HF2 := Lib.hid (show Fr No w w2 by rw [← hw2]; exact HF1.out.alloc _)
  have HW2 := Lib.hid hw2
  have HBF := Lib.hid hbf
  have hg0 : w1.cell? ⟨1, 16, none⟩ = some (.string ⟨#[108, 105, 115, 116]⟩) := (HC.out.fr HF1.out).at_ 16 (by omega)
  have hg1 : w1.cell? ⟨1, 17, none⟩ = some (.string ⟨#[]⟩) := (HC.out.fr HF1.out).at_ 17 (by omega)
  obtain ⟨y0, y1, y2, y3, y4, yf⟩ := Bk.five HB1.out
  clear hF1 HCK HBX hw2 hbf
  go_upto_region 5 with (fail)
  rw [HW2.out, HBF.out]
  clear HW2 HBF y0 y1 y2 y3 y4 yf hg0 hg1
  obtain ⟨y0, y1, y2, y3, y4, yf⟩ := Bk.five HB2.out
  obtain ⟨f0, f1, ff⟩ := HFM.out.two
  have HP := Lib.hid (wPut none (some ⟨w2.heap.size, 0, none⟩) 0 0 1 1 1 none [] [[108, 105, 115, 116]] rfl rfl rfl (by omega) w (w2.alloc (.cells #[.string ⟨#[108, 105, 115, 116]⟩] 9 (0, 0))) (TBuf.nil_ (HF2.out.alloc _)) (newT1 w2 (x := [108, 105, 115, 116]) rfl))
  go_wp2_with fail
  refine HP.out.mono ?_
  rintro e v1 ⟨A1, d1, rb1, rfl, hB1, hF1⟩
  have HL1 := Lib.hid hB1
  have HX1 := Lib.hid (Bk.fr (HB2.out.alloc _) hF1 (fun q => by cases q))
  have HM1 := Lib.hid (Bk.fr (HFM.out.alloc _) hF1 (fun q => by cases q))
  clear hB1 hF1 HP y0 y1 y2 y3 y4 yf f0 f1 ff
  obtain ⟨y0, y1, y2, y3, y4, yf⟩ := Bk.five HX1.out
  obtain ⟨f0, f1, ff⟩ := HM1.out.two
  go_wp2
  refine wp_loop_rounds 1 ?_
  rw [rounds_succ]
  go_wp2
  go_ret2
  refine ⟨A1, d1, rb1, ?_, ?_⟩
  · rw [HRW.out]; rfl
  · rw [HRW.out]; exact HL1.out
theorem wOp (o : OV) (w : World) (hV : Vs w) (hC : Cf w) : Calls Tryd.prog 28 #[o.v] w (Res w (opW o)) := by
  by_cases ho : chkO o = 0
  · obtain ⟨k, h1, h8, hk, _⟩ := chk_op ho
    match k, h1, h8, hk with
    | 1, _, _, hk => exact wOp1 o hk ho w hV hC
    | 2, _, _, hk => exact wOp2 o hk ho w hV hC
    | 3, _, _, hk => exact wOp3 o hk ho w hV hC
    | 4, _, _, hk => exact wOp4 o hk ho w hV hC
    | 5, _, _, hk => exact wOp5 o hk ho w hV hC
    | 6, _, _, hk => exact wOp6 o hk ho w hV hC
    | 7, _, _, hk => exact wOp7 o hk ho w hV hC
    | 8, _, _, hk => exact wOp8 o hk ho w hV hC
  · exact wOp_err o ho w
end Go.Proofs.YtdhlbdllidfenaaDoor.Wd
