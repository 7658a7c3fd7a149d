/- Words: what Split answers, of any line, twice over, and of another line between; what was handed out belongs to the caller: the walk. Conditions: none. -/
import Derived.Test.YtdhlbdllidfenaaBkH
namespace Go.Proofs.Ytdhlbdllidfenaa.Wd
open Go.RowKit Go.Proofs.Ytdhlbdllidfenaa.Mem
set_option linter.unusedVariables false
set_option linter.unusedSimpArgs false
theorem shownS : splitL (bs ⟨#[97, 32, 34, 98, 32, 99, 34]⟩) = ([[97], [98, 32, 99]], 0, 0) := by decide +kernel
theorem Bok.first {B hb : Nat} {w : World} (h : Bk w hb 30 [.slice none 0 0, .slice none 0 0, .int .i64 ((0 : Nat) : Int)]) (hB : B ≤ hb) : Bok B w hb none none 0 [] [] [] [] :=
  ⟨⟨_, _, h, Row.nil _ _ _, Row.nil _ _ _⟩, rfl, rfl, rfl, rfl, fun x hx => (by simp at hx), fun x hx => (by simp at hx), List.Pairwise.nil, fun k hk => (by cases hk), hB, fun k hk => (by cases hk), fun k hk => (by cases hk), fun x hx => (by simp at hx)⟩
theorem Small.more {oo of : List TL} {n : Nat} {x : TL} (h : (oo ++ of).length ≤ n ∧ ∀ z ∈ oo ++ of, z.d.length ≤ 10000) (hx : x.d.length ≤ 8192) : (oo ++ (of ++ [x])).length ≤ n + 1 ∧ ∀ z ∈ oo ++ (of ++ [x]), z.d.length ≤ 10000 := by
  rw [← List.append_assoc]
  refine ⟨by rw [List.length_append, List.length_singleton]; omega, fun z hz => ?_⟩
  rcases List.mem_append.1 hz with hz | hz
  · exact h.2 z hz
  · rw [List.mem_singleton.1 hz]; omega
set_option maxHeartbeats 4000000 in
set_option maxRecDepth 100000 in
theorem split_row (w : World) (s : ByteArray) (ha : s.size ≤ 140737488351232) (s2 : ByteArray) (hb2 : s2.size ≤ 140737488351232) :
    Calls Try.prog 3 #[.string s, .string s2] w fun e w' => e = .returned (.bool true) ∧ Below w.heap.size w w' := by
  have HSW := Lib.hid (fun W => wSplit ⟨#[97, 32, 34, 98, 32, 99, 34]⟩ W)
  rw [shownS] at HSW
  go_enter Try.func3, Try.ntmps3
  go_wp2_with fail
  refine (HSW.out _).mono ?_
  rintro ee w1 ⟨A1, c1, rb1, rfl, hrow1, hF1, hn1⟩
  dsimp only at *
  obtain ⟨w2, hw2⟩ : ∃ w2, w1.alloc (.cells #[.string ⟨#[97]⟩, .string ⟨#[98, 32, 99]⟩] 9 (0, 0)) = w2 := ⟨_, rfl⟩
  have hF12 : Fr No w1 w2 := by rw [← hw2]; exact (Fr.refl _ _).alloc _
  have hB2 : Bk w2 w1.heap.size 9 [sv [97], sv [98, 32, 99]] := by rw [← hw2]; exact Bk.new w1 9 [sv [97], sv [98, 32, 99]]
  have hTB : TR Any w2 (some ⟨w1.heap.size, 0, none⟩) [[97], [98, 32, 99]] := fun j x hj => ⟨_, rfl, trivial, by
    rw [add0]
    refine (hB2.cell j).trans ?_
    match j, hj with
    | 0, hj => simp at hj; subst hj; rfl
    | 1, hj => simp at hj; subst hj; rfl
    | j + 2, hj => simp at hj⟩
  have HTX := Lib.hid (wTexts A1 (some ⟨w1.heap.size, 0, none⟩) 2 c1 2 2 [[97], [98, 32, 99]] [[97], [98, 32, 99]] rfl rfl (by omega) w2 (Row.tr (D := Any) (hrow1.fr hF12 (fun _ _ q => q)) (fun _ _ => trivial)) hTB)
  rw [show decide ([[97], [98, 32, 99]] = ([[97], [98, 32, 99]] : List (List UInt8))) = true from by decide] at HTX
  have HF2 := Lib.hid (hF1.then_ hF12)
  clear hrow1 hF1 hn1 hF12 hB2 hTB
  go_wp2_with fail
  subst hw2
  refine HTX.out.mono ?_
  rintro ee w3 ⟨rfl, hF3⟩
  have HF3 := Lib.hid (HF2.out.then_ hF3)
  clear hF3 HTX HF2
  obtain ⟨h, hh⟩ : ∃ h, w3.heap.size = h := ⟨_, rfl⟩
  obtain ⟨w4, hw4⟩ : ∃ w4, w3.alloc (.cells #[.slice none 0 0, .slice none 0 0, .int .i64 0] 30 (0, 0)) = w4 := ⟨_, rfl⟩
  have hF4 : Fr (fun k => w.heap.size ≤ k) w w4 := by rw [← hw4]; exact (HF3.out.mono (fun _ _ q => q.elim)).alloc _
  have hBk : Bk w4 h 30 [.slice none 0 0, .slice none 0 0, .int .i64 ((0 : Nat) : Int)] := by rw [← hw4, ← hh]; exact Bk.new w3 30 [.slice none 0 0, .slice none 0 0, .int .i64 ((0 : Nat) : Int)]
  have hle := HF3.out.size
  have H4 := Lib.hid (Bok.first (B := w.heap.size) hBk (by omega))
  have HF4 := Lib.hid hF4
  clear hF4 hBk HF3
  have HS0 := Lib.hid (bsplit w.heap.size w4 h none none 0 [] [] [] [] H4.out HF4.out.size ⟨by simp, fun x hx => (by simp at hx)⟩ s)
  go_wp2_with fail
  subst hh hw4
  refine HS0.out.mono ?_
  rintro ee w5 ⟨rfl, ro5, rw5, x1, y1, H5, hx1, hF5⟩
  have HH5 := Lib.hid H5
  have HF5 := Lib.hid (HF4.out.then_ hF5)
  generalize w3.heap.size = h at *
  have q1 : (([] : List TL) ++ ([] ++ [x1])).length ≤ 1 ∧ ∀ z ∈ ([] : List TL) ++ ([] ++ [x1]), z.d.length ≤ 10000 := Small.more (n := 0) ⟨Nat.le_refl _, fun z hz => (by simp at hz)⟩ hx1
  have HS1 := Lib.hid (bsplit w.heap.size w5 h ro5 rw5 0 [] [] _ _ HH5.out HF5.out.size ⟨by omega, q1.2⟩ s)
  clear H5 hF5 H4 HF4 HS0
  go_wp2_with fail
  refine HS1.out.mono ?_
  rintro ee w6 ⟨rfl, ro6, rw6, x2, y2, H6, hx2, hF6⟩
  have HH6 := Lib.hid H6
  have HF6 := Lib.hid (HF5.out.then_ hF6)
  have q2 := Small.more q1 hx2
  have HS2 := Lib.hid (bsplit w.heap.size w6 h ro6 rw6 0 [] [] _ _ HH6.out HF6.out.size ⟨by omega, q2.2⟩ s2)
  clear H6 hF6 HS1 HH5 HF5
  go_wp2_with fail
  refine HS2.out.mono ?_
  rintro ee w7 ⟨rfl, ro7, rw7, x3, y3, H7, hx3, hF7⟩
  have HH7 := Lib.hid H7
  have HF7 := Lib.hid (HF6.out.then_ hF7)
  have q3 := Small.more q2 hx3
  have HS3 := Lib.hid (bsplit w.heap.size w7 h ro7 rw7 0 [] [] _ _ HH7.out HF7.out.size ⟨by omega, q3.2⟩ s)
  clear H7 hF7 HS2 HH6 HF6
  go_wp2_with fail
  refine HS3.out.mono ?_
  rintro ee w8 ⟨rfl, ro8, rw8, x4, y4, H8, hx4, hF8⟩
  have HH8 := Lib.hid H8
  have HF8 := Lib.hid (HF7.out.then_ hF8)
  have q4 := Small.more q3 hx4
  have HW8 := Lib.hid (bwrite w.heap.size w8 h ro8 rw8 0 [] [] _ _ HH8.out HF8.out.size (by omega) (fun x hx => (by simp at hx)) (fun x hx => (by
    simp only [List.nil_append, List.mem_append, List.mem_singleton] at hx
    rcases hx with ((rfl | rfl) | rfl) | rfl <;> assumption)))
  clear H8 hF8 HS3 HH7 HF7
  go_wp2_with fail
  refine HW8.out.mono ?_
  rintro ee w9 ⟨rfl, ro9, rw9, m9, oo9, wo9, H9, hl9, hd9, hF9⟩
  have HH9 := Lib.hid H9
  have HF9 := Lib.hid (HF8.out.then_ hF9)
  have q5 : (oo9 ++ []).length ≤ 8 ∧ ∀ z ∈ oo9 ++ [], z.d.length ≤ 10000 := by
    rw [List.append_nil]
    exact ⟨by omega, hd9⟩
  have HD9 := Lib.hid hd9
  have HS9 := Lib.hid (bsplit w.heap.size w9 h ro9 rw9 m9 oo9 wo9 [] [] HH9.out HF9.out.size ⟨by omega, q5.2⟩ s)
  clear H9 hF9 HW8 HH8 HF8 hl9 hd9 q1 q2 q3 q4
  go_wp2_with fail
  refine HS9.out.mono ?_
  rintro ee w10 ⟨rfl, ro10, rw10, x5, y5, H10, hx5, hF10⟩
  have HH10 := Lib.hid H10
  have HF10 := Lib.hid (HF9.out.then_ hF10)
  have q6 := Small.more q5 hx5
  have HS10 := Lib.hid (bsplit w.heap.size w10 h ro10 rw10 m9 oo9 wo9 _ _ HH10.out HF10.out.size ⟨by omega, q6.2⟩ s2)
  clear H10 hF10 HS9 HH9 HF9
  go_wp2_with fail
  refine HS10.out.mono ?_
  rintro ee w11 ⟨rfl, ro11, rw11, x6, y6, H11, hx6, hF11⟩
  have HH11 := Lib.hid H11
  have HF11 := Lib.hid (HF10.out.then_ hF11)
  have q7 := Small.more q6 hx6
  have HW11 := Lib.hid (bwrite w.heap.size w11 h ro11 rw11 m9 oo9 wo9 _ _ HH11.out HF11.out.size (by omega) HD9.out (fun x hx => (by
    simp only [List.nil_append, List.mem_append, List.mem_singleton] at hx
    rcases hx with rfl | rfl <;> assumption)))
  clear H11 hF11 HS10 HH10 HF10
  go_wp2_with fail
  refine HW11.out.mono ?_
  rintro ee w12 ⟨rfl, ro12, rw12, m12, oo12, wo12, H12, hl12, hd12, hF12⟩
  have HF12 := Lib.hid (HF11.out.then_ hF12)
  clear H12 hl12 hd12 hF12
  go_wp2
  go_ret
  exact ⟨by simp, HF12.out.toB (fun _ q => q) (Nat.le_refl _)⟩
end Go.Proofs.Ytdhlbdllidfenaa.Wd
