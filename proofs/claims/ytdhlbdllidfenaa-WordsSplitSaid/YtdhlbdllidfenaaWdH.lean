/- Words: how a word is written, in plain terms and walked. Conditions: none. -/
import Derived.Test.YtdhlbdllidfenaaWdG
import Derived.Shelf.Bytes.SlSmallAll
namespace Go.Proofs.Ytdhlbdllidfenaa.Wd
open Go.RowKit Go.Proofs.Ytdhlbdllidfenaa.Mem
set_option linter.unusedVariables false
set_option linter.unusedSimpArgs false
def hexD (n : Nat) : UInt8 := [48, 49, 50, 51, 52, 53, 54, 55, 56, 57, 97, 98, 99, 100, 101, 102].getD n 0
def wrB (c : UInt8) : List UInt8 := if c.toNat = 34 ∨ c.toNat = 92 then [92, c] else if c.toNat < 32 ∨ 126 < c.toNat then [92, 120, hexD (c.toNat / 16), hexD (c.toNat % 16)] else [c]
def wrW (l : List UInt8) : List UInt8 := if isBare l = true then l else 34 :: l.flatMap wrB ++ [34]
theorem wrB_len (c : UInt8) : (wrB c).length ≤ 4 := by
  unfold wrB
  split
  · simp
  · split <;> simp
theorem flat_len (l : List UInt8) : (l.flatMap wrB).length ≤ 4 * l.length := by
  induction l with
  | nil => simp
  | cons x l ih => rw [List.flatMap_cons, List.length_append, List.length_cons]; have := wrB_len x; omega
theorem flat_more {l : List UInt8} {i : Nat} (h : i < l.length) : (l.take (i + 1)).flatMap wrB = (l.take i).flatMap wrB ++ wrB l[i] := by
  rw [List.take_succ_eq_append_getElem h, List.flatMap_append]
  congr 1
  simp
theorem wrW_len (l : List UInt8) : (wrW l).length ≤ 4 * l.length + 2 := by
  unfold wrW
  split
  · omega
  · have := flat_len l
    rw [List.length_append, List.length_cons, List.length_singleton]
    omega
theorem hex_at (x : Nat) (h : x < (⟨#[48, 49, 50, 51, 52, 53, 54, 55, 56, 57, 97, 98, 99, 100, 101, 102]⟩ : ByteArray).size) : (⟨#[48, 49, 50, 51, 52, 53, 54, 55, 56, 57, 97, 98, 99, 100, 101, 102]⟩ : ByteArray)[x]'h = hexD x := by
  show (#[48, 49, 50, 51, 52, 53, 54, 55, 56, 57, 97, 98, 99, 100, 101, 102] : Array UInt8)[x]'h = _
  unfold hexD
  rw [List.getD_eq_getElem?_getD, List.getElem?_eq_getElem h]
  rfl
theorem and15 (x : Nat) (h : x ≤ 255) : bits BinOp.and IntKind.u8 (x : Int) 15 = ((x % 16 : Nat) : Int) := by
  show IntKind.u8.wrap ((BitVec.ofInt 8 (x : Int) &&& BitVec.ofInt 8 15).toNat : Int) = _
  rw [BitVec.ofInt_natCast, BitVec.toNat_and, BitVec.toNat_ofNat, Nat.mod_eq_of_lt (by omega), show (BitVec.ofInt 8 15).toNat = 2 ^ 4 - 1 from rfl, Nat.and_two_pow_sub_one_eq_mod]
  show ((x % 16 : Nat) : Int) % 256 = _
  omega
theorem infoU8 : (Try.prog.info? 5).map (fun i => (i.zero, i.size, i.bytes)) = some (some (.int .u8 0), 1, 1) := by kernel_rfl
theorem nums (l : List UInt8) : strOfNums (l.map fun b => (b.toNat : Int)) = ⟨l.toArray⟩ := by
  unfold strOfNums
  rw [List.map_map]
  have : ((fun n : Int => UInt8.ofNat n.toNat) ∘ fun b : UInt8 => (b.toNat : Int)) = id := by
    funext b
    show UInt8.ofNat ((b.toNat : Int)).toNat = b
    rw [Int.toNat_natCast, UInt8.ofNat_toNat]
  rw [this, List.map_id]
theorem conv (A : Option Addr) (n c : Nat) (l : List UInt8) (w : World) (hl : l.length = n) (hA : BR Any w A l) : (convert 43 9 (.slice A n c)).run Try.prog w = .ok (.string ⟨l.toArray⟩) w := by
  rcases Nat.eq_zero_or_pos n with rfl | hn
  · obtain rfl : l = [] := List.eq_nil_of_length_eq_zero hl
    exact run_convert_bytes_zero w 43 5 Try.underlying43 Try.underlying5 A c 9 Try.underlying9
  · obtain ⟨ad, rfl, h⟩ := hA.cells (by omega)
    obtain ⟨b, off, sp⟩ := ad
    have h0 := h 0 _ (List.getElem?_eq_getElem (by rw [bv_len]; omega))
    obtain rfl : sp = none := by
      cases sp with
      | none => rfl
      | some s =>
        exfalso
        rw [show (⟨b, off, some s⟩ : Addr).add 0 = ⟨b, off, some s⟩ from rfl] at h0
        unfold World.cell? at h0
        split at h0
        · simp at h0
        · cases h0
    rw [← nums]
    refine run_convert_bytes_arg w 43 5 Try.underlying43 Try.underlying5 b off n c _ (by simpa using hl) (fun i hi => ?_) 9 Try.underlying9
    have hil : i < l.length := by omega
    have := h i (.int .u8 (l[i].toNat : Int)) (by unfold bv; rw [List.getElem?_map, List.getElem?_eq_getElem hil]; rfl)
    rw [show (⟨b, off, none⟩ : Addr).add i = ⟨b, off + i, none⟩ by unfold Addr.add; split <;> simp_all] at this
    rw [this, List.getD_eq_getElem?_getD, List.getElem?_map, List.getElem?_eq_getElem hil]
    rfl
/-- a list of bytes that grows, in memory of its own -/
def Buf (w0 w : World) (rb : Option Nat) (v : Value) (l : List UInt8) : Prop := Row w 5 1 rb v l.length (bv l) ∧ Fr No w0 w ∧ ∀ k, rb = some k → w0.heap.size ≤ k
theorem Row.br {D : Nat → Prop} {w : World} {b : Option Nat} {A : Option Addr} {c n : Nat} {l : List UInt8} (h : Row w 5 1 b (.slice A n c) n (bv l)) (hd : ∀ k, b = some k → D k) : BR D w A l := fun j u hj => by
  have hjl : j < l.length := (List.getElem?_eq_some_iff.1 hj).1
  have hn : l.length = n := by have := h.len; rw [bv_len] at this; omega
  obtain ⟨g, c', hg, hv, _, hc, _⟩ := h.at_ (by omega)
  injection hv with e1 e2 e3
  subst e1
  refine ⟨⟨g, 0, none⟩, rfl, hd g hg, ?_⟩
  rw [add0, hc j _ (by unfold bv; rw [List.getElem?_map, hj]; rfl)]
theorem newCells (w : World) (cs : List Value) : ∃ ad, some (⟨w.heap.size, 0, none⟩ : Addr) = some ad ∧ ∀ (j : Nat) (u : Value), cs[j]? = some u → (w.alloc (.cells cs.toArray 5 (0, 0))).cell? (ad.add j) = some u :=
  ⟨_, rfl, fun j u hj => by rw [add0]; exact ((Bk.new w 5 cs).cell j).trans hj⟩
theorem Buf.quiet {w0 w w1 : World} {rb : Option Nat} {v : Value} {l : List UInt8} (h : Buf w0 w rb v l) (hf : Fr No w w1) : Buf w0 w1 rb v l := ⟨h.1.fr hf (fun _ _ q => q), h.2.1.then_ hf, h.2.2⟩
theorem Buf.grow {w0 w w1 : World} {rb rb1 : Option Nat} {v v1 : Value} {l k : List UInt8} {n m : Nat} (h : Buf w0 w rb v l) (hr : Row w1 5 1 rb1 v1 (n + m) (bv l ++ bv k)) (hn : l.length = n) (hm : k.length = m) (hf : Fr (fun q => rb = some q) w w1) (hnb : rb1 = rb ∨ ∃ q, rb1 = some q ∧ w.heap.size ≤ q) : Buf w0 w1 rb1 v1 (l ++ k) := by
  refine ⟨?_, h.2.1.trans hf (fun q hq e => by have := h.2.2 q e; omega), fun q hq => ?_⟩
  · rw [List.length_append, hn, hm, bv_append]; exact hr
  · rcases hnb with e | ⟨q', e, hq'⟩
    · exact h.2.2 q (e ▸ hq)
    · rw [e] at hq; cases hq; have := h.2.1.size; omega
theorem Buf.conv {w0 w : World} {rb : Option Nat} {A : Option Addr} {n c : Nat} {l : List UInt8} (h : Buf w0 w rb (.slice A n c) l) (hn : l.length = n) : (convert 43 9 (.slice A n c)).run Try.prog w = .ok (.string ⟨l.toArray⟩) w := by
  obtain ⟨h1, h2, h3⟩ := h
  rw [hn] at h1
  exact Wd.conv A n c l w hn (Row.br (D := Any) h1 (fun _ _ => trivial))
set_option maxHeartbeats 4000000 in
set_option maxRecDepth 100000 in
theorem wWritten (s : ByteArray) (hs : s.size ≤ 1000000000000) (w : World) : Calls Try.prog 21 #[.string s] w fun e w' => e = .returned (.string ⟨(wrW (bs s)).toArray⟩) ∧ Fr No w w' := by
  have HPL := Lib.hid (fun W => wPlain s (by omega) W)
  cases hb : isBare (bs s) with
  | true =>
    rw [hb] at HPL
    have HE := Lib.hid (show wrW (bs s) = bs s by unfold wrW; rw [if_pos hb])
    clear hb
    go_enter Try.func21, Try.ntmps21
    go_wp2_with fail
    refine (HPL.out _).mono ?_
    rintro e w1 ⟨rfl, hF1⟩
    go_wp2
    go_ret
    exact ⟨by rw [HE.out, bs_mk]; rfl, hF1⟩
  | false =>
    rw [hb] at HPL
    have HE := Lib.hid (show wrW (bs s) = 34 :: (bs s).flatMap wrB ++ [34] by unfold wrW; rw [if_neg (by rw [hb]; simp)])
    clear hb
    go_enter Try.func21, Try.ntmps21
    go_wp2_with fail
    refine (HPL.out _).mono ?_
    rintro e w1 ⟨rfl, hF1⟩
    have HB0 := Lib.hid (show Buf w (w1.alloc (.cells #[.int .u8 34] 5 (0, 0))) (some w1.heap.size) (.slice (some ⟨w1.heap.size, 0, none⟩) 1 1) [34] from ⟨Row.shut (sp := []) (Bk.new w1 5 [.int .u8 34]) rfl rfl (Nat.le_refl _) (by unfold maxLen; omega), hF1.alloc _, fun k hk => by cases hk; exact hF1.size⟩)
    clear hF1 HPL
    go_wp2
    go_loopw [3, 12] (fun b i wr => ∃ (k n : Nat) (A : Option Addr) (c : Nat) (rb : Option Nat) (acc : List UInt8), b = .slice A n c ∧ i = .int .i64 (k : Int) ∧ k ≤ s.size ∧ n ≤ 4 * k + 1 ∧ Hid (acc.length = n) ∧ Hid (acc = 34 :: ((bs s).take k).flatMap wrB) ∧ Hid (Buf w wr rb (.slice A n c) acc)) (fun _ i _ => s.size - (intOf i).toNat)
    case atStart => exact ⟨0, 1, _, _, _, [34], rfl, rfl, Nat.zero_le _, Nat.le_refl _, rfl, rfl, HB0.out⟩
    case round =>
      clear HB0
      obtain ⟨k, n, A, c, rb, acc, rfl, rfl, hk, hn, HL, HA, HB⟩ := hrel
      have hwk : IntKind.i64.wrap ((k : Int) + 1) = (k : Int) + 1 := IntWalk.i64_in _ (by omega)
      by_cases hlt : k < s.size
      · have d1 : decide ((k : Int) < (s.size : Int)) = true := decide_eq_true (by omega)
        have d1' : decide (k < s.size) = true := decide_eq_true hlt
        have hki : (k : Int) < (s.size : Int) := by omega
        obtain ⟨ch, hch⟩ : ∃ ch, s[k]'hlt = ch := ⟨_, rfl⟩
        have hc255 : ch.toNat ≤ 255 := by have := ch.toNat_lt; omega
        have HM := Lib.hid (show acc ++ wrB ch = 34 :: ((bs s).take (k + 1)).flatMap wrB by
          have hki : k < (bs s).length := by rw [bs_len]; exact hlt
          rw [flat_more hki, HA.out, bs_get s k hlt, hch]; rfl)
        have HRW := Lib.hid (show ∀ W, Fr No wr W → Row W 5 1 rb (.slice A n c) n (bv acc) from fun W hW => by
          have := (HB.out.quiet hW).1
          rw [HL.out] at this
          exact this)
        clear HA
        by_cases q1 : ch.toNat = 34 ∨ ch.toNat = 92
        · have e1 : ((ch.toNat : Int) == 34) = true ∨ (((ch.toNat : Int) == 34) = false ∧ ((ch.toNat : Int) == 92) = true) := by
            simp only [beq_iff_eq, beq_eq_false_iff_ne]
            omega
          have HW := Lib.hid (show wrB ch = [92, ch] by unfold wrB; rw [if_pos q1])
          clear q1
          rcases e1 with e1 | ⟨e1, e2⟩
          all_goals
            go_wp2_with (at_builtin; refine wl_append _ rfl (.tmp 29) (.tmp 31) 43 rfl 5 _ 1 1 Try.underlying43 infoU8 rfl (by decide) rb _ n (bv acc) rfl (HRW.out _ ((Fr.refl No wr).alloc _)) (some ⟨wr.heap.size, 0, none⟩) 2 2 (bv [92, ch]) rfl rfl (fun _ => newCells wr (bv [92, ch])) (bv_one _) (by unfold maxLen; omega) (by omega) ?_; intro A6 c6 w6 rb6 hrow6 hF6 hnb6)
            have HB6 := Lib.hid ((HB.out.quiet ((Fr.refl No wr).alloc _)).grow (k := [92, ch]) hrow6 HL.out rfl hF6 hnb6)
            have HL6 := Lib.hid (show (acc ++ [92, ch]).length = n + 2 by rw [List.length_append, HL.out]; rfl)
            clear hrow6 hF6 hnb6 HB HL HRW
            go_wp2
            go_roundw
            case rel => exact ⟨k + 1, n + 2, A6, c6, rb6, _, rfl, by go_num, by omega, by omega, HL6, by show _ = _; rw [← HM.out, HW.out], HB6⟩
            case measure => simp [intOf]; omega
        · have e1 : ((ch.toNat : Int) == 34) = false := by rw [beq_eq_false_iff_ne]; omega
          have e2 : ((ch.toNat : Int) == 92) = false := by rw [beq_eq_false_iff_ne]; omega
          by_cases q2 : ch.toNat < 32 ∨ 126 < ch.toNat
          · have HW := Lib.hid (show wrB ch = [92, 120, hexD (ch.toNat / 16), hexD (ch.toNat % 16)] by unfold wrB; rw [if_neg q1, if_pos q2])
            have hd : (decide ((ch.toNat : Int) < 32) = true) ∨ (decide ((ch.toNat : Int) < 32) = false ∧ decide (126 < (ch.toNat : Int)) = true) := by
              simp only [decide_eq_true_eq, decide_eq_false_iff_not]
              omega
            obtain ⟨hi, hhi⟩ : ∃ hi, ch.toNat / 16 = hi := ⟨_, rfl⟩
            obtain ⟨lo, hlo⟩ : ∃ lo, ch.toNat % 16 = lo := ⟨_, rfl⟩
            have f1 : (ch.toNat : Int) / 16 = (hi : Int) := by omega
            have f2 : bits BinOp.and IntKind.u8 (ch.toNat : Int) 15 = (lo : Int) := by rw [and15 _ hc255, hlo]
            have b1 : (hi : Int) < 16 := by omega
            have b2 : (lo : Int) < 16 := by omega
            have b1' : hi < 16 := by omega
            have b2' : lo < 16 := by omega
            rw [hhi, hlo] at HW
            have x1 := hex_at hi
            have x2 := hex_at lo
            clear hhi hlo
            clear q1 q2
            rcases hd with e3 | ⟨e3, e4⟩
            all_goals
              go_wp2
              go_region_law (first | (refine st_append _ rfl (.tmp 40) (.tmp 47) 43 rfl 5 _ 1 1 Try.underlying43 infoU8 rfl (by decide) rb _ n (bv acc) rfl (HRW.out _ (((Fr.refl No wr).drew).alloc _)) (some ⟨wr.heap.size, 0, none⟩) 4 4 (bv [92, 120, hexD hi, hexD lo]) rfl rfl (fun _ => newCells wr.drew (bv [92, 120, hexD hi, hexD lo])) (bv_one _) (by unfold maxLen; omega) (by omega) ?_; intro A6 c6 w6 rb6 hrow6 hF6 hnb6))
              all_goals
                have HB6 := Lib.hid ((HB.out.quiet (((Fr.refl No wr).drew).alloc _)).grow (k := [92, 120, hexD hi, hexD lo]) hrow6 HL.out rfl hF6 hnb6)
                have HL6 := Lib.hid (show (acc ++ [92, 120, hexD hi, hexD lo]).length = n + 4 by rw [List.length_append, HL.out]; rfl)
                clear hrow6 hF6 hnb6 HB HL HRW
                go_wp2
                go_roundw
                case rel => exact ⟨k + 1, n + 4, A6, c6, rb6, _, rfl, by go_num, by omega, by omega, HL6, by show _ = _; rw [← HM.out, HW.out], HB6⟩
                case measure => simp [intOf]; omega
          · have HW := Lib.hid (show wrB ch = [ch] by unfold wrB; rw [if_neg q1, if_neg q2])
            have e3 : decide ((ch.toNat : Int) < 32) = false := decide_eq_false (by omega)
            have e4 : decide (126 < (ch.toNat : Int)) = false := decide_eq_false (by omega)
            clear q1 q2
            go_wp2_with (at_builtin; refine wl_append _ rfl (.tmp 18) (.tmp 20) 43 rfl 5 _ 1 1 Try.underlying43 infoU8 rfl (by decide) rb _ n (bv acc) rfl (HRW.out _ ((Fr.refl No wr).alloc _)) (some ⟨wr.heap.size, 0, none⟩) 1 1 (bv [ch]) rfl rfl (fun _ => newCells wr (bv [ch])) (bv_one _) (by unfold maxLen; omega) (by omega) ?_; intro A6 c6 w6 rb6 hrow6 hF6 hnb6)
            have HB6 := Lib.hid ((HB.out.quiet ((Fr.refl No wr).alloc _)).grow (k := [ch]) hrow6 HL.out rfl hF6 hnb6)
            have HL6 := Lib.hid (show (acc ++ [ch]).length = n + 1 by rw [List.length_append, HL.out]; rfl)
            clear hrow6 hF6 hnb6 HB HL HRW
            go_wp2
            go_roundw
            case rel => exact ⟨k + 1, n + 1, A6, c6, rb6, _, rfl, by go_num, by omega, by omega, HL6, by show _ = _; rw [← HM.out, HW.out], HB6⟩
            case measure => simp [intOf]; omega
      · obtain rfl : k = s.size := by omega
        have d1 : decide ((s.size : Int) < (s.size : Int)) = false := decide_eq_false (by omega)
        have d1' : decide (s.size < s.size) = false := decide_eq_false (by omega)
        have HRW := Lib.hid (show ∀ W, Fr No wr W → Row W 5 1 rb (.slice A n c) n (bv acc) from fun W hW => by
          have := (HB.out.quiet hW).1
          rw [HL.out] at this
          exact this)
        have HQ := Lib.hid (show wrW (bs s) = acc ++ [34] by rw [HE.out, HA.out, List.take_of_length_le (by rw [bs_len]; exact Nat.le_refl _)])
        clear HA HE
        go_wp2_with (at_builtin; refine wl_append _ rfl (.tmp 50) (.tmp 51) 43 rfl 5 _ 1 1 Try.underlying43 infoU8 rfl (by decide) rb _ n (bv acc) rfl (HRW.out _ ((Fr.refl No wr).alloc _)) (some ⟨wr.heap.size, 0, none⟩) 1 1 (bv [34]) rfl rfl (fun _ => newCells wr (bv [34])) (bv_one _) (by unfold maxLen; omega) (by omega) ?_; intro A6 c6 w6 rb6 hrow6 hF6 hnb6)
        have HB6 := Lib.hid ((HB.out.quiet ((Fr.refl No wr).alloc _)).grow (k := [34]) hrow6 HL.out rfl hF6 hnb6)
        have HL6 := Lib.hid (show (acc ++ [34]).length = n + 1 by rw [List.length_append, HL.out]; rfl)
        have cv := HB6.out.conv HL6.out
        rw [← HQ.out] at cv
        have HF6 := Lib.hid HB6.out.2.1
        clear hrow6 hF6 hnb6 HB HL HRW HB6 HQ
        go_wp2
        rw [cv]
        simp only [Result.andThen]
        rw [Oper.upon_value]
        go_wp2
        go_ret
        exact ⟨rfl, HF6.out⟩
end Go.Proofs.Ytdhlbdllidfenaa.Wd
