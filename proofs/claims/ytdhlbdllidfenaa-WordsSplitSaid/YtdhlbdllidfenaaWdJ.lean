/- Words: Join, of the program and of the reference, walked. Conditions: none. -/
import Derived.Test.YtdhlbdllidfenaaWdI
import Derived.Lib.Join
namespace Go.Proofs.Ytdhlbdllidfenaa.Wd
open Go.RowKit Go.Proofs.Ytdhlbdllidfenaa.Mem
set_option linter.unusedVariables false
set_option linter.unusedSimpArgs false
def joinL (l : List (List UInt8)) : List UInt8 := Lib.join (l.map wrW) [32]
theorem joinL_cons (x : List UInt8) (r : List (List UInt8)) : joinL (x :: r) = wrW x ++ Lib.joinTail [32] (r.map wrW) := by unfold joinL; rw [List.map_cons, Lib.join_cons]
theorem joinL_nil : joinL [] = [] := rfl
theorem joinL_first {l : List (List UInt8)} (h : 0 < l.length) : joinL (l.take 1) = wrW l[0] := by
  match l, h with
  | x :: r, _ => rw [List.take_succ_cons, List.take_zero, joinL_cons]; simp [Lib.joinTail]
theorem joinL_more {l : List (List UInt8)} {i : Nat} (h : i + 1 < l.length) : joinL (l.take (i + 2)) = joinL (l.take (i + 1)) ++ [32] ++ wrW l[i + 1] := by
  match l, h with
  | x :: r, h =>
    have h' : i < r.length := by simpa using h
    rw [List.take_succ_cons, List.take_succ_cons, joinL_cons, joinL_cons, List.map_take, List.map_take, Lib.joinTail_take_succ [32] (r.map wrW) i (wrW r[i]) (by rw [List.getElem?_map, List.getElem?_eq_getElem h']; rfl), List.getElem_cons_succ]
    simp [List.append_assoc]
theorem joinL_take_le (l : List (List UInt8)) (k : Nat) : (joinL (l.take k)).length ≤ (joinL l).length := by
  match l, k with
  | [], k => rw [List.take_nil]; omega
  | x :: r, 0 => simp [joinL_nil]
  | x :: r, k + 1 =>
    rw [List.take_succ_cons, joinL_cons, joinL_cons, List.length_append, List.length_append, List.map_take]
    have := Lib.joinTail_take_le [32] (r.map wrW) k
    omega
/-- a list of words, to be read -/
def TR (D : Nat → Prop) (w : World) (A : Option Addr) (l : List (List UInt8)) : Prop := ∀ j u, l[j]? = some u → ∃ ad, A = some ad ∧ D ad.block ∧ w.cell? (ad.add j) = some (sv u)
theorem cell_lt {w : World} {a : Addr} {v : Value} (h : w.cell? a = some v) : a.block < w.heap.size := by
  rcases Nat.lt_or_ge a.block w.heap.size with q | q
  · exact q
  · rw [World.cell?, Array.getElem?_eq_none q] at h; simp at h
theorem TR.any {D : Nat → Prop} {w : World} {A : Option Addr} {l : List (List UInt8)} (h : TR D w A l) : TR Any w A l := fun j u hj => by obtain ⟨ad, h1, _, h3⟩ := h j u hj; exact ⟨ad, h1, trivial, h3⟩
theorem TR.fr {D S : Nat → Prop} {w w1 : World} {A : Option Addr} {l : List (List UInt8)} (h : TR D w A l) (hf : Fr S w w1) (hn : ∀ k, k < w.heap.size → D k → ¬ S k) : TR D w1 A l := fun j u hj => by
  obtain ⟨ad, h1, h2, h3⟩ := h j u hj
  have hb : (ad.add j).block = ad.block := add_block _ _
  have hlt := cell_lt h3
  rw [hb] at hlt
  refine ⟨ad, h1, h2, ?_⟩
  have := hf.block ad.block hlt (hn _ hlt h2)
  rw [← h3]
  unfold World.cell?
  rw [hb, this]
theorem TR.at_ {D : Nat → Prop} {w : World} {A : Option Addr} {l : List (List UInt8)} (h : TR D w A l) (k : Nat) (hk : k < l.length) : ∃ ad, A = some ad ∧ w.cell? (ad.add k) = some (sv l[k]) := by
  obtain ⟨ad, h1, _, h3⟩ := h k _ (List.getElem?_eq_getElem hk)
  exact ⟨ad, h1, h3⟩
theorem fill_next {f : List UInt8 → Value} {z : Value} {l : List (List UInt8)} {k : Nat} (h : k < l.length) : ((l.take k).map f ++ List.replicate (l.length - k) z).set k (f l[k]) = (l.take (k + 1)).map f ++ List.replicate (l.length - (k + 1)) z := by
  have hlen : ((l.take k).map f).length = k := by rw [List.length_map, List.length_take]; omega
  rw [List.set_append_right _ _ (by omega), hlen, Nat.sub_self, List.take_succ_eq_append_getElem h, List.map_append, List.append_assoc]
  congr 1
  rw [show l.length - k = (l.length - (k + 1)) + 1 by omega, List.replicate_succ]
  rfl
theorem bs_append (a b : ByteArray) : bs (a ++ b) = bs a ++ bs b := by unfold bs; rw [ByteArray.data_append, Array.toList_append]
set_option maxHeartbeats 4000000 in
set_option maxRecDepth 100000 in
theorem wJoin (A : Option Addr) (n c : Nat) (l : List (List UInt8)) (hl : l.length = n) (hn : n ≤ 1000000000000) (hx : ∀ x ∈ l, x.length ≤ 1000000000000) (hj : (joinL l).length ≤ 100000000000000) (w : World) (hT : TR Any w A l) :
    Calls Try.prog 12 #[.slice A n c] w fun e w' => e = .returned (.string ⟨(joinL l).toArray⟩) ∧ Fr No w w' := by
  have HT := Lib.hid hT
  have HX := Lib.hid hx
  have HJ := Lib.hid hj
  have HL := Lib.hid hl
  clear hT hx hj hl
  go_enter Try.func12, Try.ntmps12
  go_wp2_with (at_make; refine wl_make w rfl (.tmp 7) (.tmp 7) 22 rfl 9 (.string ⟨#[]⟩) 16 Try.underlying22 infoStr rfl (n : Int) n rfl rfl rfl (by omega) (by unfold maxLen; omega) ?_; intro w1 hB1 hs1 hF1)
  obtain ⟨ob, hob⟩ : ∃ ob, w.heap.size = ob := ⟨_, rfl⟩
  rw [hob] at hB1 hs1 ⊢
  have HOB := Lib.hid hob
  clear hob
  have HB1 := Lib.hid (show Bk w1 ob 9 ((l.take 0).map (fun x => sv (wrW x)) ++ List.replicate (l.length - 0) (sv [])) by rw [HL.out]; exact hB1)
  have HF1 := Lib.hid hF1
  clear hB1 hF1 hs1
  go_wp2
  go_loopw [11] (fun i wr => ∃ k : Nat, k ≤ n ∧ i = .int .i64 (k : Int) ∧ Hid (Bk wr ob 9 ((l.take k).map (fun x => sv (wrW x)) ++ List.replicate (l.length - k) (sv []))) ∧ Hid (Fr No w wr)) (fun i _ => n - (intOf i).toNat)
  case atStart => exact ⟨0, Nat.zero_le _, rfl, HB1, HF1⟩
  case round =>
    clear HB1 HF1
    obtain ⟨k, hk, rfl, HB, HF⟩ := hrel
    have hwk : IntKind.i64.wrap ((k : Int) + 1) = (k : Int) + 1 := IntWalk.i64_in _ (by omega)
    by_cases hlt : k < n
    · have d1 : decide ((k : Int) < (n : Int)) = true := decide_eq_true (by omega)
      have d1' : decide (k < n) = true := decide_eq_true hlt
      have hki : (k : Int) < (n : Int) := by omega
      have hkl : k < l.length := by rw [HL.out]; exact hlt
      obtain ⟨ad, hA, hc⟩ := (HT.out.fr HF.out (fun _ _ _ q => q)).at_ k hkl
      have HN := Lib.hid (fill_next (f := fun x => sv (wrW x)) (z := sv []) hkl)
      obtain ⟨x, hxx⟩ : ∃ x, l[k] = x := ⟨_, rfl⟩
      have hxl := HX.out l[k] (List.getElem_mem _)
      rw [hxx] at hc HN hxl
      subst hA
      have HW := Lib.hid (fun W => wWritten ⟨x.toArray⟩ (by rw [← bs_len, bs_of]; omega) W)
      rw [bs_of] at HW
      unfold sv at hc
      have xf := HB.out.free k
      clear hkl hxx hxl
      go_wp2_with fail
      refine (HW.out _).mono ?_
      rintro e w3 ⟨rfl, hF3⟩
      have hB3 := HB.out.fr hF3 id
      have HF3 := Lib.hid (HF.out.then_ hF3)
      have xf := hB3.free k
      have xc : w3.cell? ⟨ob, k, none⟩ = some (sv []) := by
        rw [hB3.cell k, List.getElem?_append_right (by rw [List.length_map, List.length_take]; omega), List.getElem?_replicate, if_pos (by rw [List.length_map, List.length_take, HL.out]; omega)]
      unfold sv at xc
      have hB4 : Bk (w3.setCell ⟨ob, k, none⟩ (.string ⟨(wrW x).toArray⟩)) ob 9 ((l.take (k + 1)).map (fun x => sv (wrW x)) ++ List.replicate (l.length - (k + 1)) (sv [])) := by
        rw [← HN.out]; exact hB3.set k _
      have hF4 : Fr No w (w3.setCell ⟨ob, k, none⟩ (.string ⟨(wrW x).toArray⟩)) := HF3.out.set (p := ⟨ob, k, none⟩) (.inr (by rw [HOB.out]; exact Nat.le_refl _)) _
      have HB4 := Lib.hid hB4
      have HF4 := Lib.hid hF4
      clear hF3 hB3 hB4 hF4 HB HW hc HN HF
      go_wp2
      go_roundw
      case rel => exact ⟨k + 1, by omega, by go_num, HB4, HF4⟩
      case measure => simp [intOf]; omega
    · obtain rfl : k = n := by omega
      have d1 : decide ((k : Int) < (k : Int)) = false := decide_eq_false (by omega)
      have d1' : decide (k < k) = false := decide_eq_false (by omega)
      have HBn := Lib.hid (show Bk wr ob 9 (l.map (fun x => sv (wrW x))) by
        have := HB.out
        rw [HL.out, Nat.sub_self, List.replicate_zero, List.append_nil, List.take_of_length_le (by rw [HL.out]; exact Nat.le_refl _)] at this
        exact this)
      have HC := Lib.hid (show Calls Try.prog 22 #[.slice (some ⟨ob, 0, none⟩) k k, .string ⟨#[32]⟩] wr (fun e w' => e = .returned (.string ⟨(joinL l).toArray⟩) ∧ Fr No wr w') by
        have hm : ((l.map fun x => (⟨(wrW x).toArray⟩ : ByteArray)).map (·.data.toList)) = l.map wrW := by
          rw [List.map_map]; apply List.map_congr_left; intro x _; simp
        have := Try.strings_Join ob 0 k (l.map fun x => (⟨(wrW x).toArray⟩ : ByteArray)) ⟨#[32]⟩ wr (fun j x hj => by
          rw [Nat.zero_add, HBn.out.cell j]
          rw [List.getElem?_map] at hj ⊢
          rcases hq : l[j]? with _ | y
          · rw [hq] at hj; simp at hj
          · rw [hq] at hj
            simp only [Option.map_some, Option.some.injEq] at hj ⊢
            rw [← hj]; rfl) HBn.out.lt (by rw [List.length_map, HL.out]; omega) (by rw [List.length_map, HL.out]; exact Nat.le_refl _) (by rw [hm]; have := HJ.out; unfold joinL at this; exact Nat.le_trans this (by omega))
        rw [hm, List.length_map, HL.out] at this
        exact this.mono fun e w' ⟨h1, h2⟩ => ⟨h1, Fr.of h2 _⟩)
      clear HB HBn
      go_wp2_with fail
      refine HC.out.mono ?_
      rintro e w5 ⟨rfl, hF5⟩
      have HF5 := Lib.hid (HF.out.then_ hF5)
      clear hF5
      go_wp2
      go_ret
      exact ⟨rfl, HF5.out⟩
set_option maxHeartbeats 4000000 in
set_option maxRecDepth 100000 in
theorem rJoin (A : Option Addr) (n c : Nat) (l : List (List UInt8)) (hl : l.length = n) (hn : n ≤ 1000000000000) (hx : ∀ x ∈ l, x.length ≤ 1000000000000) (hj : (joinL l).length ≤ 100000000000000) (w : World) (hT : TR Any w A l) :
    Calls Try.prog 23 #[.slice A n c] w fun e w' => e = .returned (.string ⟨(joinL l).toArray⟩) ∧ Fr No w w' := by
  have HT := Lib.hid hT
  have HX := Lib.hid hx
  have HJ := Lib.hid hj
  have HL := Lib.hid hl
  clear hT hx hj hl
  go_enter Try.func23, Try.ntmps23
  go_wp2
  go_loopw [3, 8] (fun s i wr => ∃ (k : Nat) (t : ByteArray), k ≤ n ∧ i = .int .i64 (k : Int) ∧ s = .string t ∧ Hid (bs t = joinL (l.take k)) ∧ Hid (Fr No w wr)) (fun _ i _ => n - (intOf i).toNat)
  case atStart => exact ⟨0, ⟨#[]⟩, Nat.zero_le _, rfl, rfl, rfl, Fr.refl _ _⟩
  case round =>
    obtain ⟨k, t, hk, rfl, rfl, HS, HF⟩ := hrel
    have hwk : IntKind.i64.wrap ((k : Int) + 1) = (k : Int) + 1 := IntWalk.i64_in _ (by omega)
    by_cases hlt : k < n
    · have d1 : decide ((k : Int) < (n : Int)) = true := decide_eq_true (by omega)
      have d1' : decide (k < n) = true := decide_eq_true hlt
      have hki : (k : Int) < (n : Int) := by omega
      have hkl : k < l.length := by rw [HL.out]; exact hlt
      obtain ⟨ad, hA, hc⟩ := (HT.out.fr HF.out (fun _ _ _ q => q)).at_ k hkl
      obtain ⟨x, hxx⟩ : ∃ x, l[k] = x := ⟨_, rfl⟩
      have hxl := HX.out l[k] (List.getElem_mem _)
      rw [hxx] at hc hxl
      subst hA
      have HW := Lib.hid (fun W => rWritten ⟨x.toArray⟩ (by rw [← bs_len, bs_of]; omega) W)
      rw [bs_of] at HW
      have hts : t.size ≤ 100000000000000 := by
        have := joinL_take_le l k
        rw [← HS.out, bs_len] at this
        have := HJ.out
        omega
      obtain ⟨X, hX⟩ : ∃ X : ByteArray, (⟨(wrW x).toArray⟩ : ByteArray) = X := ⟨_, rfl⟩
      have hXs : X.size ≤ 4000000000002 := by
        have := wrW_len x
        rw [← hX, ← bs_len, bs_of]
        omega
      have hbX : bs X = wrW x := by rw [← hX, bs_of]
      rw [hX] at HW
      have hcat : ¬ (9223372036854775807 < t.size + X.size) := by omega
      have hcat1 : ¬ (9223372036854775807 < t.size + 1) := by omega
      have hcat2 : ¬ (9223372036854775807 < t.size + 1 + X.size) := by omega
      have hcat3 : ¬ (9223372036854775807 < (t ++ (⟨#[32]⟩ : ByteArray)).size + X.size) := by
        rw [ByteArray.size_append]; exact hcat2
      clear hX
      unfold sv at hc
      rcases Nat.eq_zero_or_pos k with hz | hpos
      · have HN := Lib.hid (show bs (t ++ X) = joinL (l.take (k + 1)) by
          subst hz
          rw [bs_append, HS.out, joinL_first hkl, hxx, hbX]; rfl)
        have dz : decide ((0 : Int) < (k : Int)) = false := decide_eq_false (by omega)
        have dz' : decide (0 < k) = false := decide_eq_false (by omega)
        clear hz hkl hxx hxl HS hbX hts hXs
        go_wp2_with fail
        refine (HW.out _).mono ?_
        rintro e w3 ⟨rfl, hF3⟩
        have HF3 := Lib.hid (HF.out.then_ hF3)
        clear hF3 HW hc HF
        go_wp2
        go_roundw
        case rel => exact ⟨k + 1, _, by omega, by go_num, rfl, HN, HF3⟩
        case measure => simp [intOf]; omega
      · have HN := Lib.hid (show bs (t ++ ⟨#[32]⟩ ++ X) = joinL (l.take (k + 1)) by
          obtain ⟨k', rfl⟩ : ∃ k', k = k' + 1 := ⟨k - 1, by omega⟩
          rw [bs_append, bs_append, HS.out, joinL_more hkl, hxx, hbX]; rfl)
        have dz : decide ((0 : Int) < (k : Int)) = true := decide_eq_true (by omega)
        have dz' : decide (0 < k) = true := decide_eq_true hpos
        clear hkl hxx hxl HS hbX hts hXs
        go_wp2_with fail
        refine (HW.out _).mono ?_
        rintro e w3 ⟨rfl, hF3⟩
        have HF3 := Lib.hid (HF.out.then_ hF3)
        clear hF3 HW hc HF
        go_wp2
        go_roundw
        case rel => exact ⟨k + 1, _, by omega, by go_num, rfl, HN, HF3⟩
        case measure => simp [intOf]; omega
    · obtain rfl : k = n := by omega
      have d1 : decide ((k : Int) < (k : Int)) = false := decide_eq_false (by omega)
      have d1' : decide (k < k) = false := decide_eq_false (by omega)
      have HE := Lib.hid (show t = ⟨(joinL l).toArray⟩ by rw [← bs_mk t, HS.out, List.take_of_length_le (by rw [HL.out]; exact Nat.le_refl _)])
      clear HS
      go_wp2
      go_ret
      exact ⟨by rw [HE.out]; rfl, HF.out⟩
end Go.Proofs.Ytdhlbdllidfenaa.Wd
