/- Words: single, walked. Conditions: none. -/
import Derived.Test.YtdhlbdllidfenaaWdK
namespace Go.Proofs.Ytdhlbdllidfenaa.Wd
open Go.RowKit Go.Proofs.Ytdhlbdllidfenaa.Mem
set_option linter.unusedVariables false
set_option linter.unusedSimpArgs false
def lenV : Value → Nat
  | .slice _ n _ => n
  | _ => 0
theorem Buf.last {w0 w : World} {rb : Option Nat} {A : Option Addr} {n m c : Nat} {acc : List UInt8} (h : Buf w0 w rb (.slice A n c) acc) (hn : acc.length = n) (hm : n = m + 1) : ∃ g, rb = some g ∧ A = some ⟨g, 0, none⟩ ∧ n ≤ c ∧ w.cell? ⟨g, m, none⟩ = some (.int .u8 ((acc.getLastD 0).toNat : Int)) := by
  have h1 := h.1
  rw [hn] at h1
  obtain ⟨g, c', hg, hv, hc, hcell, _⟩ := h1.at_ (by omega)
  injection hv with e1 e2 e3
  subst e3
  refine ⟨g, hg, e1, hc, hcell m _ ?_⟩
  have hml : m < acc.length := by omega
  unfold bv
  rw [List.getElem?_map, List.getElem?_eq_getElem hml]
  have hne : acc ≠ [] := by intro e; rw [e] at hml; simp at hml
  have : acc.getLastD 0 = acc[m] := by
    rw [List.getLastD_eq_getLast?, List.getLast?_eq_some_getLast hne, Option.getD_some, List.getLast_eq_getElem]
    congr 1
    omega
  rw [this]; rfl
theorem Buf.cut {w0 w : World} {g n m c : Nat} {acc : List UInt8} (h : Buf w0 w (some g) (.slice (some ⟨g, 0, none⟩) n c) acc) (hn : acc.length = n) (hm : n = m + 1) : Buf w0 w (some g) (.slice (some ⟨g, 0, none⟩) m c) acc.dropLast := by
  have h1 := h.1
  rw [hn] at h1
  obtain ⟨sp, hB, hsp, hc, hcm⟩ := h1.open_
  have hne : acc ≠ [] := by intro e; rw [e] at hn; simp at hn; omega
  have hbv : bv acc = bv acc.dropLast ++ [.int .u8 ((acc.getLast hne).toNat : Int)] := by
    conv => lhs; rw [← List.dropLast_concat_getLast hne]
    rw [bv_append]; rfl
  have hl : acc.dropLast.length = m := by rw [List.length_dropLast]; omega
  refine ⟨?_, h.2.1, h.2.2⟩
  rw [hl]
  refine Row.shut (sp := [.int .u8 ((acc.getLast hne).toNat : Int)] ++ sp) ?_ (by rw [bv_len, hl]; omega) (by rw [List.length_append, List.length_singleton]; omega) (by omega) hcm
  rw [← List.append_assoc, ← hbv]; exact hB
theorem getD_get {l : List UInt8} {k : Nat} (h : k < l.length) : l.getD k 0 = l[k] := by rw [List.getD_eq_getElem?_getD, List.getElem?_eq_getElem h]; rfl
set_option maxHeartbeats 4000000 in
set_option maxRecDepth 100000 in
theorem wSingle (s : ByteArray) (hs : s.size ≤ 1000000000000) (w : World) : Calls Try.prog 15 #[.string s] w fun e w' => e = .returned (.string ⟨(singleL (bs s)).toArray⟩) ∧ Fr No w w' := by
  obtain ⟨R, hR⟩ : ∃ R, sgW (bs s) 0 false [] = R := ⟨_, rfl⟩
  have HSG := Lib.hid (show singleL (bs s) = trimW R by rw [← hR]; rfl)
  have HR := Lib.hid hR
  clear hR
  go_enter Try.func15, Try.ntmps15
  go_wp2
  go_loopw [3, 4, 5] (fun o b i wr => ∃ (k n : Nat) (q : Bool) (A : Option Addr) (c : Nat) (rb : Option Nat) (acc : List UInt8), o = .slice A n c ∧ b = .bool q ∧ i = .int .i64 (k : Int) ∧ k ≤ s.size ∧ n ≤ k ∧ Hid (acc.length = n) ∧ Hid (sgW (bs s) k q acc = R) ∧ Hid (Buf w wr rb (.slice A n c) acc)) (fun _ _ i _ => s.size - (intOf i).toNat)
  case atStart => exact ⟨0, 0, false, none, 0, none, [], rfl, rfl, rfl, Nat.zero_le _, Nat.le_refl _, rfl, HR.out, Row.nil _ _ _, Fr.refl _ _, fun k hk => by cases hk⟩
  case round =>
    clear HR
    obtain ⟨k, n, q, A, c, rb, acc, rfl, rfl, rfl, hk, hn, HL, HQ, HB⟩ := hrel
    obtain ⟨k1, hk1⟩ : ∃ k1, k + 1 = k1 := ⟨_, rfl⟩
    obtain ⟨k2, hk2⟩ : ∃ k2, k + 2 = k2 := ⟨_, rfl⟩
    have hwk : IntKind.i64.wrap ((k : Int) + 1) = (k1 : Int) := by rw [IntWalk.i64_in _ (by omega)]; omega
    have hwk2 : IntKind.i64.wrap ((k1 : Int) + 1) = (k2 : Int) := by rw [IntWalk.i64_in _ (by omega)]; omega
    by_cases hlt : k < s.size
    · have d1 : decide ((k : Int) < (s.size : Int)) = true := decide_eq_true (by omega)
      have d1' : decide (k < s.size) = true := decide_eq_true hlt
      have hki : (k : Int) < (s.size : Int) := by omega
      have hbk : k < (bs s).length := by rw [bs_len]; exact hlt
      obtain ⟨ch, hch⟩ : ∃ ch, s[k]'hlt = ch := ⟨_, rfl⟩
      have hbc : (bs s)[k]'hbk = ch := by rw [bs_get s k hlt, hch]
      by_cases qa : ch.toNat = 32 ∧ q = false
      · obtain ⟨qa, rfl⟩ := qa
        have e1 : ((ch.toNat : Int) == 32) = true := by rw [beq_iff_eq]; omega
        rcases Nat.eq_zero_or_pos n with hz | hz
        · have HQ2 := Lib.hid (show sgW (bs s) k1 false acc = R by
            rw [← HQ.out, sg_skip hbk (by rw [hbc]; exact qa) (.inl (List.eq_nil_of_length_eq_zero (by rw [HL.out]; exact hz))), hk1])
          have dz : decide ((0 : Int) < (n : Int)) = false := decide_eq_false (by omega)
          have dz' : decide (0 < n) = false := decide_eq_false (by omega)
          clear hbc hbk HQ hz qa
          go_wp2
          go_roundw
          case rel => exact ⟨k1, n, false, A, c, rb, acc, rfl, rfl, rfl, by omega, by omega, HL, HQ2, HB⟩
          case measure => simp [intOf]; omega
        · obtain ⟨m, hm⟩ : ∃ m, n = m + 1 := ⟨n - 1, by omega⟩
          obtain ⟨g, rfl, rfl, hnc, hcell⟩ := HB.out.last HL.out hm
          have hwm : IntKind.i64.wrap ((n : Int) - 1) = (m : Int) := by rw [IntWalk.i64_in _ (by omega)]; omega
          have hmn : (m : Int) < (n : Int) := by omega
          have dz : decide ((0 : Int) < (n : Int)) = true := decide_eq_true (by omega)
          have dz' : decide (0 < n) = true := decide_eq_true hz
          have hne : acc ≠ [] := fun e => by have := HL.out; rw [e] at this; simp at this; omega
          obtain ⟨la, hla⟩ : ∃ la, acc.getLastD 0 = la := ⟨_, rfl⟩
          rw [hla] at hcell
          by_cases ql : la.toNat = 32
          · have HQ2 := Lib.hid (show sgW (bs s) k1 false acc = R by
              rw [← HQ.out, sg_skip hbk (by rw [hbc]; exact qa) (.inr (by rw [hla]; exact ql)), hk1])
            have e2 : ((la.toNat : Int) != 32) = false := by rw [bne_eq_false_iff_eq]; omega
            clear hbc hbk HQ hz qa hla hne hm ql
            go_wp2
            go_roundw
            case rel => exact ⟨k1, n, false, _, c, _, acc, rfl, rfl, rfl, by omega, by omega, HL, HQ2, HB⟩
            case measure => simp [intOf]; omega
          · have HQ2 := Lib.hid (show sgW (bs s) k1 false (acc ++ [ch]) = R by
              rw [← HQ.out, sg_blank hbk (by rw [hbc]; exact qa) hne (by rw [hla]; exact ql), hk1, hbc])
            have e2 : ((la.toNat : Int) != 32) = true := by rw [bne_iff_ne]; omega
            have HRW := Lib.hid (show ∀ W, Fr No wr W → Row W 5 1 (some g) (.slice (some ⟨g, 0, none⟩) n c) n (bv acc) from fun W hW => by
              have := (HB.out.quiet hW).1
              rw [HL.out] at this
              exact this)
            clear hbc hbk HQ hz qa hla hne hm ql
            go_wp2_with (at_builtin; refine wl_append _ rfl (.tmp 34) (.tmp 36) 43 rfl 5 _ 1 1 Try.underlying43 infoU8 rfl (by decide) (some g) _ n (bv acc) rfl (HRW.out _ ((Fr.refl No wr).alloc _)) (some ⟨wr.heap.size, 0, none⟩) 1 1 (bv [ch]) rfl rfl (fun _ => newCells wr (bv [ch])) (bv_one _) (by unfold maxLen; omega) (by omega) ?_; intro A6 c6 w6 rb6 hrow6 hF6 hnb6)
            have HB6 := Lib.hid ((HB.out.quiet ((Fr.refl No wr).alloc _)).grow (k := [ch]) hrow6 HL.out rfl hF6 hnb6)
            have HL6 := Lib.hid (show (acc ++ [ch]).length = n + 1 by rw [List.length_append, HL.out]; rfl)
            clear hrow6 hF6 hnb6 HB HL HRW hcell
            go_wp2
            go_roundw
            case rel => exact ⟨k1, n + 1, false, A6, c6, rb6, _, rfl, rfl, rfl, by omega, by omega, HL6, HQ2, HB6⟩
            case measure => simp [intOf]; omega
      · have e1 : (((ch.toNat : Int) == 32) = true ∧ q = true) ∨ ((ch.toNat : Int) == 32) = false := by
          by_cases h : ch.toNat = 32
          · exact .inl ⟨by rw [beq_iff_eq]; omega, by cases q <;> simp_all⟩
          · exact .inr (by rw [beq_eq_false_iff_ne]; omega)
        have HRW := Lib.hid (show ∀ W, Fr No wr W → Row W 5 1 rb (.slice A n c) n (bv acc) from fun W hW => by
          have := (HB.out.quiet hW).1
          rw [HL.out] at this
          exact this)
        have H6 := Lib.hid (show ∀ (A6 : Option Addr) (c6 : Nat) (w6 : World) (rb6 : Option Nat), Row w6 5 1 rb6 (.slice A6 (n + 1) c6) (n + 1) (bv acc ++ bv [ch]) → Fr (fun q => rb = some q) (wr.alloc (.cells (bv [ch]).toArray 5 (0, 0))) w6 → (rb6 = rb ∨ ∃ q, rb6 = some q ∧ (wr.alloc (.cells (bv [ch]).toArray 5 (0, 0))).heap.size ≤ q) → Buf w w6 rb6 (.slice A6 (n + 1) c6) (acc ++ [ch]) from
          fun A6 c6 w6 rb6 h1 h2 h3 => (HB.out.quiet ((Fr.refl No wr).alloc _)).grow (k := [ch]) h1 HL.out rfl h2 h3)
        have HL6 := Lib.hid (show (acc ++ [ch]).length = n + 1 by rw [List.length_append, HL.out]; rfl)
        by_cases qb : q = true ∧ ch.toNat = 92 ∧ k + 1 < s.size
        · obtain ⟨rfl, qb, hlt2⟩ := qb
          have hlt1 : k1 < s.size := by omega
          obtain ⟨dh, hdh⟩ : ∃ dh, s[k1]'hlt1 = dh := ⟨_, rfl⟩
          have HQ2 := Lib.hid (show sgW (bs s) k2 true (acc ++ [ch] ++ [dh]) = R by
            have e := sg_esc (l := bs s) (i := k) (out := acc) (by rw [bs_len]; omega) (by rw [hbc]; exact qb)
            have hg : (bs s).getD (k + 1) 0 = dh := by rw [hk1, getD_get (l := bs s) (k := k1) (by rw [bs_len]; exact hlt1), bs_get s k1 hlt1, hdh]
            rw [hg, hk2, hbc] at e
            rw [← HQ.out, e, List.append_assoc]; rfl)
          have e2 : ((ch.toNat : Int) == 32) = false := by rw [beq_eq_false_iff_ne]; omega
          have e3 : ((ch.toNat : Int) == 92) = true := by rw [beq_iff_eq]; omega
          have d2 : decide ((k1 : Int) < (s.size : Int)) = true := decide_eq_true (by omega)
          have d2' : decide (k1 < s.size) = true := decide_eq_true hlt1
          have hki1 : (k1 : Int) < (s.size : Int) := by omega
          clear hbc hbk HQ qa qb e1 hlt2
          go_wp2_with (first | (at_builtin; refine wl_append _ rfl (.tmp 38) (.tmp 40) 43 rfl 5 _ 1 1 Try.underlying43 infoU8 rfl (by decide) rb _ n (bv acc) rfl (HRW.out _ ((Fr.refl No wr).alloc _)) (some ⟨wr.heap.size, 0, none⟩) 1 1 (bv [ch]) rfl rfl (fun _ => newCells wr (bv [ch])) (bv_one _) (by unfold maxLen; omega) (by omega) ?_; intro A6 c6 w6 rb6 hrow6 hF6 hnb6; have HB6 := Lib.hid (H6.out _ _ _ _ hrow6 hF6 hnb6); clear hrow6 hF6 hnb6; have HRW6 := Lib.hid (show ∀ W, Fr No w6 W → Row W 5 1 rb6 (.slice A6 (n + 1) c6) (n + 1) (bv (acc ++ [ch])) from fun W hW => by (have := (HB6.out.quiet hW).1; rw [HL6.out] at this; exact this))) | (at_builtin; refine wl_append _ rfl (.tmp 56) (.tmp 60) 43 rfl 5 _ 1 1 Try.underlying43 infoU8 rfl (by decide) rb6 _ (n + 1) (bv (acc ++ [ch])) rfl (HRW6.out _ ((Fr.refl No w6).alloc _)) (some ⟨w6.heap.size, 0, none⟩) 1 1 (bv [dh]) rfl rfl (fun _ => newCells w6 (bv [dh])) (bv_one _) (by unfold maxLen; omega) (by omega) ?_; intro A7 c7 w7 rb7 hrow7 hF7 hnb7))
          have HB7 := Lib.hid ((HB6.out.quiet ((Fr.refl No w6).alloc _)).grow (k := [dh]) hrow7 HL6.out rfl hF7 hnb7)
          have HL7 := Lib.hid (show (acc ++ [ch] ++ [dh]).length = n + 1 + 1 by rw [List.length_append, HL6.out]; rfl)
          clear hrow7 hF7 hnb7 HB HL HRW HB6 HL6 HRW6 H6
          go_wp2
          go_roundw
          case rel => exact ⟨k2, n + 1 + 1, true, A7, c7, rb7, _, rfl, rfl, rfl, by omega, by omega, HL7, HQ2, HB7⟩
          case measure => simp [intOf]; omega
        · have hall : (q = true ∧ ((ch.toNat : Int) == 32) = true ∧ ((ch.toNat : Int) == 92) = false) ∨ (((ch.toNat : Int) == 32) = false ∧ q = false) ∨ (((ch.toNat : Int) == 32) = false ∧ q = true ∧ ((ch.toNat : Int) == 92) = false) ∨ (((ch.toNat : Int) == 32) = false ∧ q = true ∧ ((ch.toNat : Int) == 92) = true ∧ decide ((k1 : Int) < (s.size : Int)) = false ∧ decide (k1 < s.size) = false) := by
            clear e1
            rcases q with _ | _
            · exact .inr (.inl ⟨by rw [beq_eq_false_iff_ne]; intro h; exact qa ⟨by omega, rfl⟩, rfl⟩)
            · by_cases h : ch.toNat = 92
              · exact .inr (.inr (.inr ⟨by rw [beq_eq_false_iff_ne]; omega, rfl, by rw [beq_iff_eq]; omega, decide_eq_false (fun h' => qb ⟨rfl, h, by omega⟩), decide_eq_false (fun h' => qb ⟨rfl, h, by omega⟩)⟩))
              · by_cases h2 : ch.toNat = 32
                · exact .inl ⟨rfl, by rw [beq_iff_eq]; omega, by rw [beq_eq_false_iff_ne]; omega⟩
                · exact .inr (.inr (.inl ⟨by rw [beq_eq_false_iff_ne]; omega, rfl, by rw [beq_eq_false_iff_ne]; omega⟩))
          have hq3 : ((ch.toNat : Int) == 34) = true ∧ Hid (sgW (bs s) k1 (!q) (acc ++ [ch]) = R) ∨ ((ch.toNat : Int) == 34) = false ∧ Hid (sgW (bs s) k1 q (acc ++ [ch]) = R) := by
            by_cases h : ch.toNat = 34
            · refine .inl ⟨by rw [beq_iff_eq]; omega, ?_⟩
              show _ = _
              rw [← HQ.out, sg_quote hbk (by rw [hbc]; exact h), hk1, hbc]
            · refine .inr ⟨by rw [beq_eq_false_iff_ne]; omega, ?_⟩
              show _ = _
              rw [← HQ.out, sg_other hbk (by rw [hbc]; exact qa) (by rw [hbc, bs_len]; exact qb) (by rw [hbc]; exact h), hk1, hbc]
          clear hbc hbk HQ qa qb
          clear e1
          rcases hall with ⟨rfl, e1, e2⟩ | ⟨e1, rfl⟩ | ⟨e1, rfl, e2⟩ | ⟨e1, rfl, e2, e5, e6⟩
          all_goals
            rcases hq3 with ⟨e7, HQ2⟩ | ⟨e7, HQ2⟩
            all_goals
              go_wp2_with (at_builtin; refine wl_append _ rfl (.tmp 38) (.tmp 40) 43 rfl 5 _ 1 1 Try.underlying43 infoU8 rfl (by decide) rb _ n (bv acc) rfl (HRW.out _ ((Fr.refl No wr).alloc _)) (some ⟨wr.heap.size, 0, none⟩) 1 1 (bv [ch]) rfl rfl (fun _ => newCells wr (bv [ch])) (bv_one _) (by unfold maxLen; omega) (by omega) ?_; intro A6 c6 w6 rb6 hrow6 hF6 hnb6)
              have HB6 := Lib.hid (H6.out _ _ _ _ hrow6 hF6 hnb6)
              clear hrow6 hF6 hnb6 HB HL HRW H6
              go_wp2
              go_roundw
              case rel => exact ⟨k1, n + 1, _, A6, c6, rb6, _, rfl, rfl, rfl, by omega, by omega, HL6, HQ2, HB6⟩
              case measure => simp [intOf]; omega
    · obtain rfl : k = s.size := by omega
      have d1 : decide ((s.size : Int) < (s.size : Int)) = false := decide_eq_false (by omega)
      have d1' : decide (s.size < s.size) = false := decide_eq_false (by omega)
      have HQ2 := Lib.hid (show singleL (bs s) = trimW (acc, q) by rw [HSG.out, ← HQ.out, sg_end (by rw [bs_len]; exact Nat.le_refl _)])
      have hns : n ≤ s.size := hn
      clear HQ HSG hk hn hk1 hk2 hwk hwk2
      go_wp2
      go_loopw [3] (fun o wq => ∃ (n : Nat) (A : Option Addr) (c : Nat) (rb : Option Nat) (acc : List UInt8), o = .slice A n c ∧ n ≤ s.size ∧ Hid (acc.length = n) ∧ Hid (singleL (bs s) = trimW (acc, q)) ∧ Hid (Buf w wq rb (.slice A n c) acc)) (fun o _ => lenV o)
      case atStart => exact ⟨n, A, c, rb, acc, rfl, hns, HL, HQ2, HB⟩
      case round =>
        clear HL HQ2 HB hns
        obtain ⟨n, A, c, rb, acc, rfl, hns, HL, HQ, HB⟩ := hrel
        rcases Nat.eq_zero_or_pos n with hz | hz
        · have dz : decide ((0 : Int) < (n : Int)) = false := decide_eq_false (by omega)
          have dz' : decide (0 < n) = false := decide_eq_false (by omega)
          have HE := Lib.hid (show singleL (bs s) = acc by
            have : acc = [] := List.eq_nil_of_length_eq_zero (by rw [HL.out]; exact hz)
            rw [HQ.out, this]
            cases q
            · exact strip_no (fun h => h.1 rfl)
            · rfl)
          have cv := HB.out.conv HL.out
          rw [← HE.out] at cv
          have HF := Lib.hid HB.out.2.1
          clear HQ HE HB HL hz
          go_wp2
          go_ret
          exact ⟨rfl, HF.out⟩
        · obtain ⟨m, hm⟩ : ∃ m, n = m + 1 := ⟨n - 1, by omega⟩
          obtain ⟨g, rfl, rfl, hnc, hcell⟩ := HB.out.last HL.out hm
          have hwm : IntKind.i64.wrap ((n : Int) - 1) = (m : Int) := by rw [IntWalk.i64_in _ (by omega)]; omega
          have hmn : (m : Int) < (n : Int) := by omega
          have dz : decide ((0 : Int) < (n : Int)) = true := decide_eq_true (by omega)
          have dz' : decide (0 < n) = true := decide_eq_true hz
          have hne : acc ≠ [] := fun e => by have := HL.out; rw [e] at this; simp at this; omega
          obtain ⟨la, hla⟩ : ∃ la, acc.getLastD 0 = la := ⟨_, rfl⟩
          rw [hla] at hcell
          by_cases ql : la.toNat = 32 ∧ q = false
          · obtain ⟨ql, rfl⟩ := ql
            have HQ2 := Lib.hid (show singleL (bs s) = trimW (acc.dropLast, false) by
              rw [HQ.out]
              show strip acc = strip acc.dropLast
              exact strip_yes hne (by rw [hla]; exact ql))
            have e2 : ((la.toNat : Int) == 32) = true := by rw [beq_iff_eq]; omega
            have HB2 := Lib.hid (HB.out.cut HL.out hm)
            have HL2 := Lib.hid (show acc.dropLast.length = m by rw [List.length_dropLast, HL.out]; omega)
            have hmc : m ≤ c := by omega
            have hmci : (m : Int) ≤ (c : Int) := by omega
            have hmlt : m < n := by omega
            clear HQ hz hla hne hm ql HB HL
            go_wp2
            go_roundw
            case rel => exact ⟨m, _, c, _, _, rfl, by omega, HL2, HQ2, HB2⟩
            case measure => exact hmlt
          · have HE := Lib.hid (show singleL (bs s) = acc by
              rw [HQ.out]
              rcases q with _ | _
              · exact strip_no (fun h => ql ⟨by rw [← hla]; exact h.2, rfl⟩)
              · rfl)
            have hq : ((la.toNat : Int) == 32) = false ∨ (((la.toNat : Int) == 32) = true ∧ q = true) := by
              by_cases h : la.toNat = 32
              · exact .inr ⟨by rw [beq_iff_eq]; omega, by cases q <;> simp_all⟩
              · exact .inl (by rw [beq_eq_false_iff_ne]; omega)
            have cv := HB.out.conv HL.out
            rw [← HE.out] at cv
            have HF := Lib.hid HB.out.2.1
            clear HQ HE HB HL hz hla hne hm ql
            rcases hq with e2 | ⟨e2, rfl⟩
            all_goals
              go_wp2
              go_ret
              exact ⟨rfl, HF.out⟩
end Go.Proofs.Ytdhlbdllidfenaa.Wd
