/- Words: Digits, walked; what the numbers' walks need. Conditions: none. -/
import Derived.Test.YtdhlbdllidfenaaDoorNuA
import Derived.Test.YtdhlbdllidfenaaDoorShelf
import Derived.WalkKit
import Derived.BigQuiet
import Derived.Laws.Strings
import Derived.Laws.Concat
import Derived.Deep.QuietTactic
import Derived.Shelf.Bytes.SlSmallAll
import Derived.Lib.AppendIntMem
import Derived.Lib.AtoiErrMem
namespace Go.Proofs.YtdhlbdllidfenaaDoor.Nu
open Go.RowKit Go.Proofs.YtdhlbdllidfenaaDoor.Mem
set_option linter.unusedVariables false
set_option linter.unusedSimpArgs false
theorem ret_bool {a b : Bool} (h : a = b) : Ending.returned (.bool a) = .returned (.bool b) := by rw [h]
theorem ret_int {k : IntKind} {a b : Int} (h : a = b) : Ending.returned (.int k a) = .returned (.int k b) := by rw [h]
/-- the bytes of a text -/
def bs (s : ByteArray) : List UInt8 := s.data.toList
theorem bs_len (s : ByteArray) : (bs s).length = s.size := by unfold bs; rw [Array.length_toList]; rfl
theorem bs_get (s : ByteArray) (k : Nat) (h : k < s.size) : (bs s)[k]'(by rw [bs_len]; exact h) = s[k] := by unfold bs; rw [Array.getElem_toList]; rfl
theorem bs_mk (s : ByteArray) : (⟨(bs s).toArray⟩ : ByteArray) = s := by unfold bs; simp
theorem bs_of (l : List UInt8) : bs ⟨l.toArray⟩ = l := by unfold bs; simp
theorem bs_toList (s : ByteArray) : s.toList = bs s := ByteArray.toList_eq s
theorem nums (l : List UInt8) : strOfNums (l.map fun b => (b.toNat : Int)) = ⟨l.toArray⟩ := by
  unfold strOfNums
  rw [List.map_map]
  have : ((fun n : Int => UInt8.ofNat n.toNat) ∘ fun b : UInt8 => (b.toNat : Int)) = id := by
    funext b
    show UInt8.ofNat ((b.toNat : Int)).toNat = b
    rw [Int.toNat_natCast, UInt8.ofNat_toNat]
  rw [this, List.map_id]
theorem conv (A : Option Addr) (n c : Nat) (l : List UInt8) (w : World) (hl : l.length = n) (hA : BR Any w A l) : (convert 54 9 (.slice A n c)).run Tryd.prog w = .ok (.string ⟨l.toArray⟩) w := by
  rcases Nat.eq_zero_or_pos n with rfl | hn
  · obtain rfl : l = [] := List.eq_nil_of_length_eq_zero hl
    exact run_convert_bytes_zero w 54 5 Tryd.underlying54 Tryd.underlying5 A c 9 Tryd.underlying9
  · obtain ⟨ad, rfl, h⟩ := hA.cells (by omega)
    obtain ⟨b, off, sp⟩ := ad
    have h0 := h 0 _ (List.getElem?_eq_getElem (by rw [bv_len]; omega))
    obtain rfl : sp = none := by
      cases sp with
      | none => rfl
      | some s =>
        exfalso
        rw [show (⟨b, off, some s⟩ : Addr).add 0 = ⟨b, off, some s⟩ from rfl] at h0
        unfold World.cell? at h0
        split at h0
        · simp at h0
        · cases h0
    rw [← nums]
    refine run_convert_bytes_arg w 54 5 Tryd.underlying54 Tryd.underlying5 b off n c _ (by simpa using hl) (fun i hi => ?_) 9 Tryd.underlying9
    have hil : i < l.length := by omega
    have := h i (.int .u8 (l[i].toNat : Int)) (by unfold bv; rw [List.getElem?_map, List.getElem?_eq_getElem hil]; rfl)
    rw [show (⟨b, off, none⟩ : Addr).add i = ⟨b, off + i, none⟩ by unfold Addr.add; split <;> simp_all] at this
    rw [this, List.getD_eq_getElem?_getD, List.getElem?_map, List.getElem?_eq_getElem hil]
    rfl
theorem cell_lt {w : World} {a : Addr} {v : Value} (h : w.cell? a = some v) : a.block < w.heap.size := by
  rcases Nat.lt_or_ge a.block w.heap.size with q | q
  · exact q
  · rw [World.cell?, Array.getElem?_eq_none q] at h; simp at h
theorem conv1 (W : World) (c : UInt8) (g : Nat) (h : W.cell? ⟨g, 0, none⟩ = some (.int .u8 (c.toNat : Int))) : (convert 54 9 (.slice (some ⟨g, 0, none⟩) 1 1)).run Tryd.prog W = .ok (.string ⟨#[c]⟩) W :=
  conv (some ⟨g, 0, none⟩) 1 1 [c] W rfl (fun j u hj => by
    match j, hj with
    | 0, hj =>
      simp at hj
      subst hj
      exact ⟨_, rfl, trivial, by rw [add0]; exact h⟩)
theorem newCell (W : World) (v : Value) : (W.alloc (.cells #[v] 5 (0, 0))).cell? ⟨W.heap.size, 0, none⟩ = some v := (Bk.new W 5 [v]).cell 0
theorem keepCell {W W' : World} {a : Addr} {v : Value} (h : Fr No W W') (hc : W.cell? a = some v) : W'.cell? a = some v := by
  have hlt := cell_lt hc
  have := h.block a.block hlt id
  rw [← hc]
  unfold World.cell?
  rw [this]
theorem dec_len : ∀ (n : Nat), (Lib.decDigits n).length ≤ n + 1 := by
  intro n
  induction n using Nat.strongRecOn with
  | _ n ih =>
  by_cases h : n < 10
  · rw [Lib.decDigits_one h]; simp
  · rw [Lib.decDigits, dif_neg h, List.length_append]
    have := ih (n / 10) (by omega)
    have e : [UInt8.ofNat (48 + n % 10)].length = 1 := rfl
    omega
set_option maxHeartbeats 4000000 in
set_option maxRecDepth 100000 in
theorem wDigits : ∀ (n : Nat), n ≤ 9223372036854775807 → ∀ (w : World), Calls Tryd.prog 10 #[.int .i64 (n : Int)] w fun e w' => e = .returned (.string ⟨(Lib.decDigits n).toArray⟩) ∧ Fr No w w' := by
  intro n
  induction n using Nat.strongRecOn with
  | _ n ih =>
  intro hn w
  by_cases h10 : n < 10
  · have d1 : decide ((n : Int) < 10) = true := decide_eq_true (by omega)
    have d1' : decide (n < 10) = true := decide_eq_true h10
    have HE := Lib.hid (Lib.decDigits_one h10)
    obtain ⟨c, hc⟩ : ∃ c, UInt8.ofNat (48 + n) = c := ⟨_, rfl⟩
    have hcn : c.toNat = 48 + n := by rw [← hc, UInt8.toNat_ofNat']; omega
    have hw1 : IntKind.i64.wrap (48 + (n : Int)) = 48 + (n : Int) := IntWalk.i64_in _ (by omega)
    have hw2 : (48 + (n : Int)) % 256 = (c.toNat : Int) := by omega
    have cv := conv1 (w.alloc (.cells #[.int .u8 (c.toNat : Int)] 5 (0, 0))) c w.heap.size (newCell w _)
    rw [hc] at HE
    clear hc hcn h10 ih
    go_enter Tryd.func10, Tryd.ntmps10
    go_wp2
    go_ret
    exact ⟨by rw [HE.out]; rfl, (Fr.refl _ _).alloc _⟩
  · have d1 : decide ((n : Int) < 10) = false := decide_eq_false (by omega)
    have d1' : decide (n < 10) = false := decide_eq_false h10
    have HE := Lib.hid (show Lib.decDigits n = Lib.decDigits (n / 10) ++ [UInt8.ofNat (48 + n % 10)] by rw [Lib.decDigits, dif_neg h10])
    obtain ⟨c, hc⟩ : ∃ c, UInt8.ofNat (48 + n % 10) = c := ⟨_, rfl⟩
    have hcn : c.toNat = 48 + n % 10 := by rw [← hc, UInt8.toNat_ofNat']; omega
    obtain ⟨m, hm⟩ : ∃ m, n / 10 = m := ⟨_, rfl⟩
    obtain ⟨r, hr⟩ : ∃ r, n % 10 = r := ⟨_, rfl⟩
    have HC := Lib.hid (fun W => ih m (by omega) (by omega) W)
    have f1 : (n : Int) / 10 = (m : Int) := by omega
    have f2 : (n : Int) % 10 = (r : Int) := by omega
    have f3 : (n : Int).tdiv 10 = (m : Int) := by rw [Int.tdiv_eq_ediv_of_nonneg (by omega)]; exact f1
    have f4 : (n : Int).tmod 10 = (r : Int) := by rw [Int.tmod_eq_emod_of_nonneg (by omega)]; exact f2
    have f5 : IntKind.i64.wrap (m : Int) = (m : Int) := IntWalk.i64_in _ (by omega)
    have f6 : IntKind.i64.wrap (r : Int) = (r : Int) := IntWalk.i64_in _ (by omega)
    have hw1 : IntKind.i64.wrap (48 + (r : Int)) = 48 + (r : Int) := IntWalk.i64_in _ (by omega)
    have hw2 : (48 + (r : Int)) % 256 = (c.toNat : Int) := by omega
    have hw3 : IntKind.u8.wrap (48 + (r : Int)) = (c.toNat : Int) := hw2
    obtain ⟨X, hX⟩ : ∃ X : ByteArray, (⟨(Lib.decDigits m).toArray⟩ : ByteArray) = X := ⟨_, rfl⟩
    have hXs : X.size ≤ m + 1 := by
      rw [← hX, ← bs_len, bs_of]
      exact dec_len m
    have hcat : ¬ (9223372036854775807 < X.size + 1) := by omega
    rw [hX] at HC
    rw [hm, hc] at HE
    have HX := Lib.hid hX
    clear hc hcn h10 ih hm hr hX
    go_enter Tryd.func10, Tryd.ntmps10
    go_wp2
    have kc := fun (W : World) => conv1 (W.alloc (.cells #[.int .u8 (c.toNat : Int)] 5 (0, 0))) c W.heap.size (newCell W _)
    have kd := fun (W : World) => conv1 (W.alloc (.cells #[.int .u8 (c.toNat : Int)] 5 (0, 0))).drew c W.heap.size (newCell W _)
    go_region_law (first | (go_simp; go_at_call 10; refine (HC.out _).mono ?_; rintro e w4 ⟨rfl, hF4⟩; try (have kc4 := conv1 w4 c w.heap.size (keepCell hF4 (newCell w.drew (.int .u8 (c.toNat : Int)))))))
    all_goals
      clear kc kd
      go_wp2
      go_ret
      refine ⟨?_, ?_⟩
      · rw [HE.out, ← HX.out]
        show Ending.returned (.string ((⟨(Lib.decDigits m).toArray⟩ : ByteArray) ++ ⟨[c].toArray⟩)) = _
        rw [ByteArray.mk_append_mk]
      · first
          | exact ((Fr.refl No w).drew.then_ hF4).alloc _
          | exact (((Fr.refl No w).alloc _).drew).then_ hF4
/-- what the library's variables hold -/
structure Vs (w : World) : Prop where
  tab : Lib.TabIs Tryd.prog w "internal/strconv.uint64pow10" .u64 Lib.pow10Tab
  es : ∃ tp p, w.var? Tryd.prog "strconv.ErrSyntax" = some #[.iface tp p]
  er : ∃ tp p, w.var? Tryd.prog "strconv.ErrRange" = some #[.iface tp p]
theorem var_below {w w' : World} {name : String} {cs : Array Value} (h : w.var? Tryd.prog name = some cs) (hb : Below w.heap.size w w') : w'.var? Tryd.prog name = some cs := by
  unfold World.var? at *
  cases hg : Tryd.prog.globalNamed name with
  | none => simp [hg] at h
  | some g =>
    simp only [hg, Option.bind_some] at h ⊢
    have hlt : g < w.heap.size := by
      rcases Nat.lt_or_ge g w.heap.size with h' | h'
      · exact h'
      · rw [Array.getElem?_eq_none h'] at h; simp at h
    rw [hb.block g hlt]
    exact h
theorem Vs.fr {w w' : World} (h : Vs w) (hf : Fr No w w') : Vs w' := by
  obtain ⟨a, b, e1⟩ := h.es
  obtain ⟨c, d, e2⟩ := h.er
  exact ⟨Lib.tabBelow_of_tabIs h.tab w' hf.to, ⟨a, b, var_below e1 hf.to⟩, ⟨c, d, var_below e2 hf.to⟩⟩
def numE (l : List UInt8) : Ending := match numL l with
  | some n => .returned (.tuple #[.int .i64 (n : Int), .bool true])
  | none => .returned (.tuple #[.int .i64 0, .bool false])
set_option maxHeartbeats 4000000 in
set_option maxRecDepth 100000 in
theorem wNumber (s : ByteArray) (hs : s.size ≤ 140737488351232) (w : World) (hV : Vs w) : Calls Tryd.prog 8 #[.string s] w fun e w' => e = numE (bs s) ∧ Fr No w w' := by
  have HV := Lib.hid hV
  clear hV
  rcases hN : numL (bs s) with _ | n
  · have HE := Lib.hid (show numE (bs s) = .returned (.tuple #[.int .i64 0, .bool false]) by unfold numE; rw [hN])
    rcases hA : Lib.atoiAll (bs s) with v | _ | _
    · have HA := Lib.hid (fun W => Tryd.strconv_Atoi_ok s (by omega) v hA W)
      have hb := atoi_ok_le hA
      by_cases hv : v < 0
      · have d1 : decide (v < 0) = true := decide_eq_true hv
        clear hN hA hv hb
        go_enter Tryd.func8, Tryd.ntmps8
        go_wp2_with fail
        refine (HA.out _).mono ?_
        rintro e w1 ⟨rfl, hw1⟩
        have HF1 := Lib.hid (show Fr No w w1 by
          rcases hw1 with rfl | ⟨t, rfl⟩
          · exact Fr.refl _ _
          · exact Fr.of (Lib.bytesWorld_below _ _ _) _)
        clear hw1
        go_wp2
        go_ret2
        exact ⟨by rw [HE.out]; rfl, HF1.out⟩
      · have d1 : decide (v < 0) = false := decide_eq_false hv
        have hne : Lib.itoa v ≠ bs s := (num_none hN hA).resolve_left hv
        obtain ⟨X, hX⟩ : ∃ X : ByteArray, (⟨(Lib.itoa v).toArray⟩ : ByteArray) = X := ⟨_, rfl⟩
        have hXX : (X.toList == s.toList) = false := by
          rw [beq_eq_false_iff_ne, bs_toList, bs_toList, ← hX, bs_of]
          exact hne
        have HI := Lib.hid (fun W (hW : Vs W) => Tryd.strconv_Itoa v hb.1 hb.2 W hW.tab)
        rw [hX] at HI
        clear hN hA hv hb hne hX
        go_enter Tryd.func8, Tryd.ntmps8
        go_wp2_with fail
        refine (HA.out _).mono ?_
        rintro e w1 ⟨rfl, hw1⟩
        have HF1 := Lib.hid (show Fr No w w1 by
          rcases hw1 with rfl | ⟨t, rfl⟩
          · exact Fr.refl _ _
          · exact Fr.of (Lib.bytesWorld_below _ _ _) _)
        clear hw1
        go_wp2_with fail
        refine (HI.out _ (HV.out.fr HF1.out)).mono ?_
        rintro e w2 ⟨rfl, hw2⟩
        have HF2 := Lib.hid (show Fr No w w2 by
          obtain ⟨k, os, rfl⟩ := hw2
          exact HF1.out.then_ (Fr.of (Lib.below_grow _ _ (Nat.le_refl _) _ _) _))
        clear hw2
        go_wp2
        go_ret2
        exact ⟨by rw [HE.out]; rfl, HF2.out⟩
    · obtain ⟨tp, p, hvar⟩ := HV.out.es
      have HA := Lib.hid (show Calls Tryd.prog 29 #[.string s] w (fun e w' => ∃ N, e = .returned (.tuple #[.int .i64 0, .iface 78 (.pointer (some ⟨N, 0, none⟩))]) ∧ Below w.heap.size w w') from (Any.strconv_Atoi_syntax_var Tryd.laysC172 s (by omega) hA tp p w hvar).mono fun e w' ⟨N, h1, _, _, h4⟩ => ⟨N, h1, h4⟩)
      clear hN hA hvar
      go_enter Tryd.func8, Tryd.ntmps8
      go_wp2_with fail
      refine HA.out.mono ?_
      rintro e w1 ⟨N, rfl, hb⟩
      go_wp2
      go_ret2
      exact ⟨by rw [HE.out]; rfl, Fr.of hb _⟩
    · obtain ⟨tp, p, hvar⟩ := HV.out.er
      have HA := Lib.hid (Tryd.strconv_Atoi_range_var s (by omega) hA tp p w hvar)
      clear hN hA hvar
      go_enter Tryd.func8, Tryd.ntmps8
      go_wp2_with fail
      refine HA.out.mono ?_
      rintro e w1 ⟨N, rfl, _, _, hb⟩
      go_wp2
      go_ret2
      exact ⟨by rw [HE.out]; rfl, Fr.of hb _⟩
  · have HE := Lib.hid (show numE (bs s) = .returned (.tuple #[.int .i64 (n : Int), .bool true]) by unfold numE; rw [hN])
    obtain ⟨hA, hI, hle⟩ := num_some hN
    have HA := Lib.hid (fun W => Tryd.strconv_Atoi_ok s (by omega) (n : Int) hA W)
    have d1 : decide ((n : Int) < 0) = false := decide_eq_false (by omega)
    have HI := Lib.hid (fun W (hW : Vs W) => Tryd.strconv_Itoa (n : Int) (by omega) (by omega) W hW.tab)
    have hX : (⟨(Lib.itoa (n : Int)).toArray⟩ : ByteArray) = s := by rw [hI, bs_mk]
    rw [hX] at HI
    clear hN hA hI hle hX
    go_enter Tryd.func8, Tryd.ntmps8
    go_wp2_with fail
    refine (HA.out _).mono ?_
    rintro e w1 ⟨rfl, hw1⟩
    have HF1 := Lib.hid (show Fr No w w1 by
      rcases hw1 with rfl | ⟨t, rfl⟩
      · exact Fr.refl _ _
      · exact Fr.of (Lib.bytesWorld_below _ _ _) _)
    clear hw1
    go_wp2_with fail
    refine (HI.out _ (HV.out.fr HF1.out)).mono ?_
    rintro e w2 ⟨rfl, hw2⟩
    have HF2 := Lib.hid (show Fr No w w2 by
      obtain ⟨k, os, rfl⟩ := hw2
      exact HF1.out.then_ (Fr.of (Lib.below_grow _ _ (Nat.le_refl _) _ _) _))
    clear hw2
    go_wp2
    go_ret2
    exact ⟨by rw [HE.out]; rfl, HF2.out⟩
end Go.Proofs.YtdhlbdllidfenaaDoor.Nu
