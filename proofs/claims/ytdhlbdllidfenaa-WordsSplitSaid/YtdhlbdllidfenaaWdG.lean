/- Words: Split, walked. Conditions: none. -/
import Derived.Test.YtdhlbdllidfenaaWdF
namespace Go.Proofs.Ytdhlbdllidfenaa.Wd
open Go.RowKit Go.Proofs.Ytdhlbdllidfenaa.Mem
set_option linter.unusedVariables false
set_option linter.unusedSimpArgs false
/-- a word as a value -/
def sv (l : List UInt8) : Value := .string ⟨l.toArray⟩
theorem sv_bs (s : ByteArray) : sv (bs s) = .string s := by unfold sv; rw [bs_mk]
theorem infoStr : (Try.prog.info? 9).map (fun i => (i.zero, i.size, i.bytes)) = some (some (.string ⟨#[]⟩), 1, 16) := by kernel_rfl
abbrev SR := List (List UInt8) × Nat × Int
/-- what Split hands out, in memory of its own -/
def Splits (w : World) (R : SR) (e : Ending) (w' : World) : Prop := ∃ A c rb, e = .returned (.tuple #[.slice A R.1.length c, .int .i64 (R.2.1 : Int), .int .i64 R.2.2]) ∧ Row w' 9 1 rb (.slice A R.1.length c) R.1.length (R.1.map sv) ∧ Fr No w w' ∧ ∀ k, rb = some k → w.heap.size ≤ k
theorem Splits.nil_ {w w' : World} (p : Nat) (c : Int) (hf : Fr No w w') : Splits w ([], p, c) (.returned (.tuple #[.slice none 0 0, .int .i64 (p : Int), .int .i64 c])) w' :=
  ⟨none, 0, none, rfl, Row.nil _ _ _, hf, fun k hk => by cases hk⟩
set_option maxHeartbeats 4000000 in
set_option maxRecDepth 100000 in
theorem wSplit (s : ByteArray) (w : World) : Calls Try.prog 6 #[.string s] w (Splits w (splitL (bs s))) := by
  obtain ⟨R, hR⟩ : ∃ R, splitL (bs s) = R := ⟨_, rfl⟩
  rw [hR]
  by_cases hlong : 8192 < s.size
  · have HE := Lib.hid (show R = ([], 0, 160) by rw [← hR]; unfold splitL; rw [if_pos (by rw [bs_len]; exact hlong)])
    have d0 : decide ((8192 : Int) < (s.size : Int)) = true := decide_eq_true (by omega)
    have d0' : decide (8192 < s.size) = true := decide_eq_true hlong
    clear hR
    go_enter Try.func6, Try.ntmps6
    go_wp2
    go_ret3
    rw [HE.out]
    exact Splits.nil_ 0 160 (Fr.refl _ _)
  · have HR := Lib.hid (show splitW (bs s) 0 [] = R by rw [← hR]; unfold splitL; rw [if_neg (by rw [bs_len]; exact hlong)])
    have d0 : decide ((8192 : Int) < (s.size : Int)) = false := decide_eq_false (by omega)
    have d0' : decide (8192 < s.size) = false := decide_eq_false hlong
    have hs2 : s.size ≤ 8192 := by omega
    clear hR hlong
    go_enter Try.func6, Try.ntmps6
    go_wp2
    go_loopw [5, 6] (fun v5 v6 wr => ∃ (i : Nat) (out : List (List UInt8)) (n : Nat) (A : Option Addr) (c : Nat) (rb : Option Nat), v5 = .slice A n c ∧ v6 = .int .i64 (i : Int) ∧ i ≤ s.size ∧ n ≤ i ∧ Hid (out.length = n) ∧ Hid (splitW (bs s) i out = R) ∧ Hid (Row wr 9 1 rb (.slice A n c) n (out.map sv)) ∧ Hid (Fr No w wr) ∧ Hid (∀ k, rb = some k → w.heap.size ≤ k)) (fun _ v6 _ => s.size - (intOf v6).toNat)
    case atStart => exact ⟨0, [], 0, none, 0, none, rfl, rfl, Nat.zero_le _, Nat.le_refl _, rfl, HR.out, Row.nil _ _ _, Fr.refl _ _, fun k hk => by cases hk⟩
    case round =>
      clear HR
      obtain ⟨i, out, n, A, c, rb, rfl, rfl, hi, hni, HLN, HQ, HRW, HF, HN⟩ := hrel
      have hw : IntKind.i64.wrap ((i : Int) + 1) = (i : Int) + 1 := IntWalk.i64_in _ (by omega)
      by_cases hlt : i < s.size
      · have d1 : decide ((i : Int) < (s.size : Int)) = true := decide_eq_true (by omega)
        have d1' : decide (i < s.size) = true := decide_eq_true hlt
        have hii : (i : Int) < (s.size : Int) := by omega
        have hbi : i < (bs s).length := by rw [bs_len]; exact hlt
        obtain ⟨ch, hch⟩ : ∃ ch, s[i]'hlt = ch := ⟨_, rfl⟩
        have hbc : (bs s)[i]'hbi = ch := by rw [bs_get s i hlt, hch]
        by_cases q : ch.toNat = 32
        · have e1 : ((ch.toNat : Int) == 32) = true := by rw [beq_iff_eq]; omega
          have HQ2 := Lib.hid (show splitW (bs s) (i + 1) out = R by rw [← HQ.out, split_blank hbi (by rw [hbc]; exact q)])
          clear q hbc hbi HQ
          go_wp2
          go_roundw
          case rel => exact ⟨i + 1, out, n, A, c, rb, rfl, by go_num, by omega, by omega, HLN, HQ2, HRW, HF, HN⟩
          case measure => simp [intOf]; omega
        · have e1 : ((ch.toNat : Int) == 32) = false := by rw [beq_eq_false_iff_ne]; omega
          have HO := Lib.hid (fun W => wOne s i hlt (by omega) W)
          have HX := Lib.hid (split_one (out := out) hbi (by rw [hbc]; exact q))
          rcases hO : oneW (bs s) i with ⟨p, cc⟩ | ⟨wd, e⟩
          · have hcc : (cc != 0) = true := by
              have : cc = 161 ∨ cc = 162 := one_bad hbi hO
              rcases this with rfl | rfl <;> rfl
            have HE := Lib.hid (show R = ([], p, cc) by rw [← HQ.out, HX.out, hO])
            rw [hO] at HO
            unfold quoR at HO
            dsimp only at HO
            clear hO hbc hbi HX HQ q
            go_wp2_with fail
            refine (HO.out _).mono ?_
            rintro ee w' ⟨rfl, hF2⟩
            go_wp2
            go_ret3
            rw [HE.out]
            exact Splits.nil_ p cc (HF.out.then_ hF2)
          · have hee := one_ok hbi hO
            rw [bs_len] at hee
            have hee1 := hee.1
            have hee2 := hee.2
            have HE := Lib.hid (show (if e < (bs s).length ∧ ((bs s).getD e 0).toNat ≠ 32 then (([], e, 161) : SR) else splitW (bs s) e (out ++ [wd])) = R by rw [← HQ.out, HX.out, hO])
            rw [hO] at HO
            unfold quoR at HO
            dsimp only at HO
            have hsp : (∃ h : e < s.size, (s[e]'h).toNat ≠ 32) ∨ ((¬ e < s.size ∨ ∃ h : e < s.size, (s[e]'h).toNat = 32) ∧ Hid (splitW (bs s) e (out ++ [wd]) = R)) := by
              by_cases h1 : e < s.size
              · by_cases h2 : (s[e]'h1).toNat = 32
                · exact .inr ⟨.inr ⟨h1, h2⟩, by show _ = _; rw [← HE.out, if_neg (by rw [bs_getD s e h1]; omega)]⟩
                · exact .inl ⟨h1, h2⟩
              · exact .inr ⟨.inl h1, by show _ = _; rw [← HE.out, if_neg (by rw [bs_len]; omega)]⟩
            clear hO hbc hbi HX HQ q hee
            rcases hsp with ⟨h1, h2⟩ | ⟨h1, HQ2⟩
            · have HE2 := Lib.hid (show R = ([], e, 161) by rw [← HE.out, if_pos (by rw [bs_getD s e h1, bs_len]; exact ⟨h1, h2⟩)])
              have d2 : decide ((e : Int) < (s.size : Int)) = true := decide_eq_true (by omega)
              have d2' : decide (e < s.size) = true := decide_eq_true h1
              have hei : (e : Int) < (s.size : Int) := by omega
              have e3 : (((s[e]'h1).toNat : Int) != 32) = true := by rw [bne_iff_ne]; omega
              clear HE h2
              go_wp2_with fail
              refine (HO.out _).mono ?_
              rintro ee w' ⟨rfl, hF2⟩
              go_wp2
              go_ret3
              rw [HE2.out]
              exact Splits.nil_ e 161 (HF.out.then_ hF2)
            · clear HE
              rcases h1 with h1 | ⟨h1, h2⟩
              case' inl =>
                have d2 : decide ((e : Int) < (s.size : Int)) = false := decide_eq_false (by omega)
                have d2' : decide (e < s.size) = false := decide_eq_false h1
              case' inr =>
                have d2 : decide ((e : Int) < (s.size : Int)) = true := decide_eq_true (by omega)
                have d2' : decide (e < s.size) = true := decide_eq_true h1
                have hei : (e : Int) < (s.size : Int) := by omega
                have e3 : (((s[e]'h1).toNat : Int) != 32) = false := by rw [bne_eq_false_iff_eq]; omega
                clear h2
              all_goals
                go_wp2_with fail
                refine (HO.out _).mono ?_
                rintro ee w3 ⟨rfl, hF3⟩
                have hF4 : Fr No wr (w3.alloc (.cells #[.string ⟨wd.toArray⟩] 9 (0, 0))) := hF3.alloc _
                have HR4 := Lib.hid (HRW.out.fr hF4 (fun _ _ q => q))
                have HF4 := Lib.hid (HF.out.then_ hF4)
                have HNEW := Lib.hid (fun (_ : 0 < 1) => show ∃ ad, some (⟨w3.heap.size, 0, none⟩ : Addr) = some ad ∧ ∀ (j : Nat) (u : Value), [sv wd][j]? = some u → (w3.alloc (.cells #[.string ⟨wd.toArray⟩] 9 (0, 0))).cell? (ad.add j) = some u from ⟨_, rfl, fun j u hj => by rw [add0]; exact ((Bk.new w3 9 [sv wd]).cell j).trans hj⟩)
                clear hF3 hF4 HO HRW HF
                go_wp2_with (at_builtin; refine wl_append _ rfl (.tmp 45) (.tmp 47) 22 rfl 9 _ 1 16 Try.underlying22 infoStr rfl (by decide) rb _ n (out.map sv) rfl HR4.out (some ⟨w3.heap.size, 0, none⟩) 1 1 [sv wd] rfl rfl HNEW.out (by simp [sv, Value.oneCell']) (by unfold maxLen; omega) (by omega) ?_; intro A6 c6 w6 rb6 hrow6 hF6 hnb6)
                have HR6 := Lib.hid (show Row w6 9 1 rb6 (.slice A6 (n + 1) c6) (n + 1) ((out ++ [wd]).map sv) by rw [List.map_append]; exact hrow6)
                have HF6 := Lib.hid (HF4.out.trans hF6 (fun k hk q => by have := HN.out k q; omega))
                have HN6 := Lib.hid (show ∀ k, rb6 = some k → w.heap.size ≤ k from fun k hk => by
                  rcases hnb6 with q | ⟨k', q, hk'⟩
                  · exact HN.out k (by rw [← q]; exact hk)
                  · rw [q] at hk; cases hk; have := HF4.out.size; omega)
                have HL6 := Lib.hid (show (out ++ [wd]).length = n + 1 by rw [List.length_append, HLN.out]; rfl)
                clear hrow6 hF6 hnb6 HR4 HF4 HNEW HN HLN
                go_wp2
                go_roundw
                case rel => exact ⟨e, out ++ [wd], n + 1, A6, c6, rb6, by first | rfl | go_num, rfl, hee2, by omega, HL6, HQ2, HR6, HF6, HN6⟩
                case measure => simp [intOf]; omega
      · have HE := Lib.hid (show R = (out, 0, 0) by rw [← HQ.out, split_end (by rw [bs_len]; omega)])
        have d1 : decide ((i : Int) < (s.size : Int)) = false := decide_eq_false (by omega)
        have d1' : decide (i < s.size) = false := decide_eq_false hlt
        clear HQ
        go_wp2
        go_ret3
        rw [HE.out]
        refine ⟨A, c, rb, ?_, ?_, HF.out, HN.out⟩
        · show _ = Ending.returned (.tuple #[.slice A out.length c, .int .i64 0, .int .i64 0])
          rw [HLN.out]; rfl
        · show Row _ _ _ _ (.slice A out.length c) out.length _
          rw [HLN.out]; exact HRW.out
end Go.Proofs.Ytdhlbdllidfenaa.Wd
