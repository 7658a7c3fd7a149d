/- Words: a word in quotes, walked. Conditions: none. -/
import Derived.Test.YtdhlbdllidfenaaWdD
import Derived.Test.YtdhlbdllidfenaaShelf
import Derived.Deep.DeepCutAuto
import Derived.StillTailTactics
import Derived.WalkMore
namespace Go.Proofs.Ytdhlbdllidfenaa.Wd
open Go.RowKit Go.Proofs.Ytdhlbdllidfenaa.Mem
set_option linter.unusedVariables false
set_option linter.unusedSimpArgs false
def quoR : QR → Ending
  | .bad p c => .returned (.tuple #[.string ⟨#[]⟩, .int .i64 (p : Int), .int .i64 c])
  | .ok w e => .returned (.tuple #[.string ⟨w.toArray⟩, .int .i64 (e : Int), .int .i64 0])
theorem fr_of {B : Nat} {w w1 : World} (hB : w.heap.size = B) (h : Below B w w1) : Fr No w w1 := by subst hB; exact Fr.of h _
theorem u8_eq (c : UInt8) (k : Nat) : ((c.toNat : Int) == (k : Int)) = decide (c.toNat = k) := by
  rw [Bool.eq_iff_iff, beq_iff_eq, decide_eq_true_eq]; omega
theorem builderF_fr {T e : TypeId} {B b : Nat} {cs : List Value} {w w1 : World} (hf : Fr No w w1) (h : Lib.IsBuilderF T e B b cs w) : Lib.IsBuilderF T e B b cs w1 := by
  have step : ∀ p, Lib.BuilderAtF T e B b p cs w → Lib.BuilderAtF T e B b p cs w1 := fun p ⟨h1, v, h2, h3, h4⟩ => by
    refine ⟨h1, v, (hf.block b (lt_of_some h2) id).trans h2, ⟨h3.1, ?_⟩, h4⟩
    rcases h3.2 with q | ⟨g, cap, cur, fz, q1, q2, q3, q4⟩
    · exact .inl q
    · exact .inr ⟨g, cap, cur, fz, q1, q2, (hf.block g (lt_of_some q3) id).trans q3, q4⟩
  exact h.imp (step _) (step _)
set_option maxHeartbeats 8000000 in
set_option maxRecDepth 100000 in
theorem wQuoted (s : ByteArray) (fr : Nat) (hf : fr < s.size) (hs : s.size ≤ 140737488351232) (w : World) : Calls Try.prog 25 #[.string s, .int .i64 (fr : Int)] w fun e w' => e = quoR (quoW (bs s) fr (fr + 1) []) ∧ Fr No w w' := by
  obtain ⟨j1, hj1⟩ : ∃ j, fr + 1 = j := ⟨_, rfl⟩
  rw [hj1]
  have w1 : IntKind.i64.wrap ((fr : Int) + 1) = (j1 : Int) := by rw [IntWalk.i64_in _ (by omega)]; omega
  have hj1l : 0 < j1 := by omega
  have hj1s : j1 ≤ s.size := by omega
  have HJ := Lib.hid hj1
  clear hj1
  obtain ⟨R, hR⟩ : ∃ R, quoW (bs s) fr j1 [] = R := ⟨_, rfl⟩
  have HR := Lib.hid hR
  rw [hR]
  clear hR
  have HFB := Lib.hid (Lib.fresh_isBuilder 48 5 w)
  have HB0 := Lib.hid ((Below.refl w.heap.size w).alloc (Nat.le_refl _) (.cells #[.pointer none, .slice none 0 0] 48 (0, 0)))
  go_enter Try.func25, Try.ntmps25
  go_wp2
  go_step3
  go_wp2
  go_step3
  go_wp2
  generalize w.alloc (Obj.cells #[Value.pointer none, Value.slice none 0 0] 48) = w2 at *
  obtain ⟨B, hB⟩ : ∃ B, w.heap.size = B := ⟨_, rfl⟩
  have HBB := Lib.hid hB
  rw [hB] at HFB HB0 ⊢
  clear hB
  go_loopw [8] (fun a wr => ∃ (i : Nat) (acc : List UInt8), a = .int .i64 (i : Int) ∧ j1 ≤ i ∧ i ≤ s.size ∧ acc.length ≤ i ∧ Hid (quoW (bs s) fr i acc = R) ∧ Hid (Lib.IsBuilder 48 5 B B (Lib.byteCells acc) wr) ∧ Hid (Below B w wr)) (fun a _ => s.size - (intOf a).toNat)
  case atStart => exact ⟨j1, [], rfl, Nat.le_refl _, hj1s, Nat.zero_le _, HR, HFB.out, HB0⟩
  case round =>
    clear HFB HB0
    obtain ⟨i, acc, rfl, hi0, hi, hal, HQ, HI, HBw⟩ := hrel
    have hBs : B ≤ wr.heap.size := by have := HBw.out.size; have := HBB.out; omega
    have hwi : IntKind.i64.wrap ((i : Int) + 1) = (i : Int) + 1 := IntWalk.i64_in _ (by omega)
    by_cases hlt : i < s.size
    · have hii : (i : Int) < (s.size : Int) := by omega
      have d0 : decide ((i : Int) < (s.size : Int)) = true := decide_eq_true hii
      have d0' : decide (i < s.size) = true := decide_eq_true hlt
      obtain ⟨c, hc⟩ : ∃ c, s[i]'hlt = c := ⟨_, rfl⟩
      have hbi : i < (bs s).length := by rw [bs_len]; exact hlt
      have hbc : (bs s)[i]'hbi = c := by rw [bs_get s i hlt, hc]
      by_cases q1 : c.toNat = 34
      · have HE := Lib.hid (show R = if isBare acc = true then .bad fr 161 else .ok acc (i + 1) by rw [← HQ.out, quo_quote hbi (by rw [hbc]; exact q1)])
        have e1 : ((c.toNat : Int) == 34) = true := by rw [beq_iff_eq]; omega
        have HST := Lib.hid (Try.Builder_String_any_f B B acc wr (Lib.IsBuilderF.of HI.out) hBs)
        have HPL := Lib.hid (fun W => wPlain ⟨acc.toArray⟩ (by rw [← bs_len, bs_of]; omega) W)
        rw [bs_of] at HPL
        have d5 : decide ((s.size : Int) ≤ (i : Int)) = false := decide_eq_false (by omega)
        have d5' : decide (s.size ≤ i) = false := decide_eq_false (by omega)
        clear q1 hbc hbi HQ HI
        go_wp2_with fail
        refine HST.out.mono ?_
        rintro e w3 ⟨rfl, hI3, hB3⟩
        have HI3 := Lib.hid hI3
        have HB3 := Lib.hid (HBw.out.trans hB3)
        have hBs3 : B ≤ w3.heap.size := Nat.le_trans hBs hB3.size
        clear hI3 hB3 HST HBw
        go_wp2_with fail
        refine (HPL.out _).mono ?_
        rintro e w4 ⟨rfl, hF4⟩
        have hB4 : Below B w3 w4 := hF4.toB (fun _ q => q.elim) hBs3
        have HB4 := Lib.hid (HB3.out.trans hB4)
        have HI4 := Lib.hid (show Lib.IsBuilderF 48 5 B B (Lib.byteCells acc) w4 from builderF_fr hF4 HI3.out)
        have hBs4 : B ≤ w4.heap.size := Nat.le_trans hBs3 hB4.size
        have HST4 := Lib.hid (Try.Builder_String_any_f B B acc w4 HI4.out hBs4)
        clear hF4 hB4 HB3 HI3 HPL HI4
        cases hbare : isBare acc with
        | true =>
          rw [hbare] at HE
          have HE2 := Lib.hid (show R = .bad fr 161 by rw [HE.out, if_pos rfl])
          clear hbare HE HST4
          go_wp2
          try rw [Exit.noGoto_ret]
          go_ret3
          exact ⟨by rw [HE2.out]; rfl, fr_of HBB.out HB4.out⟩
        | false =>
          rw [hbare] at HE
          have HE2 := Lib.hid (show R = .ok acc (i + 1) by rw [HE.out, if_neg (by simp)])
          clear hbare HE
          go_wp2_with fail
          refine HST4.out.mono ?_
          rintro e w5 ⟨rfl, _, hB5⟩
          have HB5 := Lib.hid (HB4.out.trans hB5)
          clear hB5 HST4 HB4
          go_wp2
          try rw [Exit.noGoto_ret]
          go_ret3
          exact ⟨by rw [HE2.out]; rfl, fr_of HBB.out HB5.out⟩
      have e1 : ((c.toNat : Int) == 34) = false := by rw [beq_eq_false_iff_ne]; omega
      by_cases q2 : c.toNat < 32 ∨ 126 < c.toNat
      · have HE := Lib.hid (show R = .bad i 161 by rw [← HQ.out, quo_byte hbi (by rw [hbc]; exact q2)])
        have hd : (decide ((c.toNat : Int) < 32) = true) ∨ (decide ((c.toNat : Int) < 32) = false ∧ decide (126 < (c.toNat : Int)) = true) := by
          simp only [decide_eq_true_eq, decide_eq_false_iff_not]
          omega
        clear q1 q2 hbc hbi
        rcases hd with e2 | ⟨e2, e3⟩
        all_goals
          go_wp2
          try rw [Exit.noGoto_ret]
          go_ret3
          exact ⟨by rw [HE.out]; rfl, fr_of HBB.out HBw.out⟩
      have e2 : decide ((c.toNat : Int) < 32) = false := decide_eq_false (by omega)
      have e3 : decide (126 < (c.toNat : Int)) = false := decide_eq_false (by omega)
      by_cases q4 : c.toNat = 92
      · have e4 : ((c.toNat : Int) == 92) = true := by rw [beq_iff_eq]; omega
        have HES := Lib.hid (fun W => wEscaped s i hlt (by omega) W)
        have HX := Lib.hid (show R = match escW (bs s) i with | .bad p c => .bad p c | .ok v e => quoW (bs s) fr e (acc ++ [v]) by rw [← HQ.out, quo_esc hbi (by rw [hbc]; exact q4)]; rfl)
        rcases hE : escW (bs s) i with ⟨p, cc⟩ | ⟨v, e⟩
        · obtain ⟨_, hcc⟩ := escW_bad hE hbi
          have e5 : (cc != 0) = true := by rcases hcc with rfl | rfl <;> rfl
          have HE2 := Lib.hid (show R = .bad p cc by rw [HX.out, hE])
          rw [hE] at HES
          unfold escR at HES
          dsimp only at HES
          clear hE hcc hbc hbi HX HQ HI q1 q2 q4
          go_wp2_with fail
          refine (HES.out _).mono ?_
          rintro e w' ⟨rfl, rfl⟩
          go_wp2
          try rw [Exit.noGoto_ret]
          go_ret3
          exact ⟨by rw [HE2.out]; rfl, fr_of HBB.out HBw.out⟩
        · have hee := escW_ok hE
          rw [bs_len] at hee
          have HE2 := Lib.hid (show quoW (bs s) fr e (acc ++ [v]) = R by rw [HX.out, hE])
          rw [hE] at HES
          unfold escR at HES
          dsimp only at HES
          have HWB := Lib.hid (writeByte B B (Lib.byteCells acc) (v.toNat : Int) wr HI.out (by rw [Lib.byteCells_length]; omega) hBs)
          have we : IntKind.i64.wrap ((e : Int) - 1) = (e : Int) - 1 := IntWalk.i64_in _ (by omega)
          have we' : IntKind.i64.wrap ((e : Int) - 1 + 1) = (e : Int) := by rw [Int.sub_add_cancel]; exact IntWalk.i64_in _ (by omega)
          have we'' : (e : Int) - 1 + 1 = (e : Int) := by omega
          clear hE hbc hbi HX HQ q1 q2 q4
          go_wp2_with fail
          refine (HES.out _).mono ?_
          rintro ee w' ⟨rfl, rfl⟩
          go_wp2_with fail
          refine HWB.out.mono ?_
          rintro ee w3 ⟨rfl, hI3, hB3⟩
          have HI3 := Lib.hid (show Lib.IsBuilder 48 5 B B (Lib.byteCells (acc ++ [v])) w3 from .inr (by rw [Lib.byteCells_append]; exact hI3))
          have HB3 := Lib.hid (HBw.out.trans hB3)
          clear hI3 hB3 HWB HI HBw
          go_wp2
          go_roundw
          case rel => exact ⟨e, acc ++ [v], by first | rfl | go_num, by omega, by omega, by rw [List.length_append, List.length_singleton]; omega, HE2, HI3, HB3⟩
          case measure => simp [intOf]; omega
      · have e4 : ((c.toNat : Int) == 92) = false := by rw [beq_eq_false_iff_ne]; omega
        have HE2 := Lib.hid (show quoW (bs s) fr (i + 1) (acc ++ [c]) = R by
          rw [← HQ.out, quo_other hbi (by rw [hbc]; exact q1) (by rw [hbc]; omega) (by rw [hbc]; omega) (by rw [hbc]; exact q4), hbc])
        have HWB := Lib.hid (writeByte B B (Lib.byteCells acc) (c.toNat : Int) wr HI.out (by rw [Lib.byteCells_length]; omega) hBs)
        clear hbc hbi HQ q1 q2 q4
        go_wp2_with fail
        refine HWB.out.mono ?_
        rintro ee w3 ⟨rfl, hI3, hB3⟩
        have HI3 := Lib.hid (show Lib.IsBuilder 48 5 B B (Lib.byteCells (acc ++ [c])) w3 from .inr (by rw [Lib.byteCells_append]; exact hI3))
        have HB3 := Lib.hid (HBw.out.trans hB3)
        clear hI3 hB3 HWB HI HBw
        go_wp2
        go_roundw
        case rel => exact ⟨i + 1, acc ++ [c], by go_num, by omega, by omega, by rw [List.length_append, List.length_singleton]; omega, HE2, HI3, HB3⟩
        case measure => simp [intOf]; omega
    · have HE := Lib.hid (show R = .bad s.size 162 by rw [← HQ.out, quo_end (by rw [bs_len]; omega), bs_len])
      have d0 : decide ((i : Int) < (s.size : Int)) = false := decide_eq_false (by omega)
      have d0' : decide (i < s.size) = false := decide_eq_false hlt
      have d5 : decide ((s.size : Int) ≤ (i : Int)) = true := decide_eq_true (by omega)
      have d5' : decide (s.size ≤ i) = true := decide_eq_true (by omega)
      clear HQ HI
      go_wp2
      try rw [Exit.noGoto_ret]
      go_ret3
      exact ⟨by rw [HE.out]; rfl, fr_of HBB.out HBw.out⟩
end Go.Proofs.Ytdhlbdllidfenaa.Wd
