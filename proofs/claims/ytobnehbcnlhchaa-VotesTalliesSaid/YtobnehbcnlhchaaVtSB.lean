/- A tally's calls: New, Add, Get, Drop, Clone, Clear (printed by a program of ours). Conditions: none. -/
import Derived.Test.YtobnehbcnlhchaaVtSA
import Derived.Test.YtobnehbcnlhchaaVtW
namespace Go.Proofs.Ytobnehbcnlhchaa.VtS
open Go.RowKit Go.Proofs.Ytobnehbcnlhchaa.Mem Go.Proofs.Ytobnehbcnlhchaa.Vt
set_option linter.unusedVariables false
set_option linter.unusedSimpArgs false
theorem Tl.bk {w : World} {g : Nat} {q : Int} {s : List (Bool × ByteArray)} (h : Tl w g q s) : Bk w g 100 (cellsT q s) := h.1
theorem Tl.fr {S : Nat → Prop} {w w1 : World} {g : Nat} {q : Int} {s : List (Bool × ByteArray)} (h : Tl w g q s) (hf : Fr S w w1) (hn : ¬ S g) : Tl w1 g q s := ⟨Bk.fr h.bk hf hn, h.2⟩
theorem Tl.bt {w : World} {g : Nat} {q : Int} {s : List (Bool × ByteArray)} (h : Tl w g q s) : BT w g 100 := Bk.bt h.bk
theorem seven {s : List (Bool × ByteArray)} (h : s.length = 7) : ∃ p0 p1 p2 p3 p4 p5 p6, s = [p0, p1, p2, p3, p4, p5, p6] := by
  match s, h with
  | [p0, p1, p2, p3, p4, p5, p6], _ => exact ⟨_, _, _, _, _, _, _, rfl⟩
def no7 : List (Bool × ByteArray) := [(false, ByteArray.empty), (false, ByteArray.empty), (false, ByteArray.empty), (false, ByteArray.empty), (false, ByteArray.empty), (false, ByteArray.empty), (false, ByteArray.empty)]
theorem new_ (n : Int) (h1 : 1 ≤ n) (h7 : n ≤ 7) (w : World) : Calls Try.prog 37 #[.int .i64 n] w fun e w' => e = .returned (.tuple #[.pointer (some ⟨w.heap.size, 0, none⟩), .int .i64 0]) ∧ Tl w' w.heap.size n no7 ∧ Fr No w w' := by
  go_enter Try.func37, Try.ntmps37
  go_wp2_with fail
  refine (within_of (r := true) (by simp [h1, h7]) _).mono ?_
  rintro e w' ⟨rfl, rfl⟩
  go_wp2
  go_ret2
  exact ⟨rfl, ⟨Bk.new w' 100 (cellsT n no7), rfl⟩, (Fr.refl _ _).alloc _⟩
theorem new_no (n : Int) (h : n < 1 ∨ 7 < n) (w : World) : Calls Try.prog 37 #[.int .i64 n] w fun e w' => e = .returned (.tuple #[.pointer none, .int .i64 40]) ∧ Fr No w w' := by
  go_enter Try.func37, Try.ntmps37
  go_wp2_with fail
  refine (within_of (r := false) (by rcases h with h | h <;> simp <;> omega) _).mono ?_
  rintro e w' ⟨rfl, rfl⟩
  go_wp2
  go_ret2
  exact ⟨rfl, Fr.refl _ _⟩
theorem add_no (g : Nat) (q who : Int) (s : List (Bool × ByteArray)) (v : ByteArray) (w : World) (hT : Tl w g q s) (h1 : 1 ≤ q) (h7 : q ≤ 7) (hk : who < 0 ∨ q ≤ who) :
    Calls Try.prog 39 #[.pointer (some ⟨g, 0, none⟩), .int .i64 who, .string v] w fun e w' => e = .returned (.tuple #[.bool false, .int .i64 41]) ∧ Fr No w w' := by
  have c0 : w.cell? ⟨g, 0, none⟩ = some (.int .i64 q) := hT.bk.cell 0
  have hw : IntKind.i64.wrap (q - 1) = q - 1 := IntWalk.i64_in _ (by omega)
  go_enter Try.func39, Try.ntmps39
  go_wp2_with fail
  refine (within_of (r := false) (by rcases hk with h | h <;> simp <;> omega) _).mono ?_
  rintro e w' ⟨rfl, rfl⟩
  go_wp2
  go_ret2
  exact ⟨rfl, Fr.refl _ _⟩
theorem get_no (g : Nat) (q who : Int) (s : List (Bool × ByteArray)) (w : World) (hT : Tl w g q s) (h1 : 1 ≤ q) (h7 : q ≤ 7) (hk : who < 0 ∨ q ≤ who) :
    Calls Try.prog 42 #[.pointer (some ⟨g, 0, none⟩), .int .i64 who] w fun e w' => e = .returned (.tuple #[.string ByteArray.empty, .bool false]) ∧ Fr No w w' := by
  have c0 : w.cell? ⟨g, 0, none⟩ = some (.int .i64 q) := hT.bk.cell 0
  have hw : IntKind.i64.wrap (q - 1) = q - 1 := IntWalk.i64_in _ (by omega)
  go_enter Try.func42, Try.ntmps42
  go_wp2_with fail
  refine (within_of (r := false) (by rcases hk with h | h <;> simp <;> omega) _).mono ?_
  rintro e w' ⟨rfl, rfl⟩
  go_wp2
  go_ret2
  exact ⟨rfl, Fr.refl _ _⟩
theorem drop_no (g : Nat) (q who : Int) (s : List (Bool × ByteArray)) (w : World) (hT : Tl w g q s) (h1 : 1 ≤ q) (h7 : q ≤ 7) (hk : who < 0 ∨ q ≤ who) :
    Calls Try.prog 45 #[.pointer (some ⟨g, 0, none⟩), .int .i64 who] w fun e w' => e = .returned (.bool false) ∧ Fr No w w' := by
  have c0 : w.cell? ⟨g, 0, none⟩ = some (.int .i64 q) := hT.bk.cell 0
  have hw : IntKind.i64.wrap (q - 1) = q - 1 := IntWalk.i64_in _ (by omega)
  go_enter Try.func45, Try.ntmps45
  go_wp2_with fail
  refine (within_of (r := false) (by rcases hk with h | h <;> simp <;> omega) _).mono ?_
  rintro e w' ⟨rfl, rfl⟩
  go_wp2
  go_ret
  exact ⟨rfl, Fr.refl _ _⟩
theorem clone_ (g : Nat) (q : Int) (s : List (Bool × ByteArray)) (w : World) (hT : Tl w g q s) :
    Calls Try.prog 17 #[.pointer (some ⟨g, 0, none⟩)] w fun e w' => e = .returned (.pointer (some ⟨w.heap.size, 0, none⟩)) ∧ Tl w' w.heap.size q s ∧ Fr No w w' := by
  obtain ⟨p0, p1, p2, p3, p4, p5, p6, rfl⟩ := seven hT.2
  have hb := hT.bk
  have c0 := hb.cell 0
  have c1 := hb.cell 1
  have c2 := hb.cell 2
  have c3 := hb.cell 3
  have c4 := hb.cell 4
  have c5 := hb.cell 5
  have c6 := hb.cell 6
  have c7 := hb.cell 7
  have c8 := hb.cell 8
  have c9 := hb.cell 9
  have c10 := hb.cell 10
  have c11 := hb.cell 11
  have c12 := hb.cell 12
  have c13 := hb.cell 13
  have c14 := hb.cell 14
  simp [cellsT] at c0 c1 c2 c3 c4 c5 c6 c7 c8 c9 c10 c11 c12 c13 c14
  clear hb
  go_enter Try.func17, Try.ntmps17
  go_wp2
  go_ret
  exact ⟨rfl, ⟨Bk.new w 100 (cellsT q [p0, p1, p2, p3, p4, p5, p6]), rfl⟩, (Fr.refl _ _).alloc _⟩
theorem add_0 (g : Nat) (q : Int) (p0 p1 p2 p3 p4 p5 p6 : Bool × ByteArray) (v : ByteArray) (w : World) (hT : Tl w g q [p0, p1, p2, p3, p4, p5, p6]) (h7 : q ≤ 7) (hk : 0 < q) :
    Calls Try.prog 39 #[.pointer (some ⟨g, 0, none⟩), .int .i64 0, .string v] w fun e w' => e = .returned (.tuple #[.bool (!p0.1), .int .i64 0]) ∧ Tl w' g q ([p0, p1, p2, p3, p4, p5, p6].set 0 (true, v)) ∧ Fr (fun j => j = g) w w' := by
  have hb := hT.bk
  have c0 : w.cell? ⟨g, 0, none⟩ = some (.int .i64 q) := hb.cell 0
  have c1 : w.cell? ⟨g, 1, none⟩ = some (.bool p0.1) := hb.cell 1
  have c2 : w.cell? ⟨g, 2, none⟩ = some (.string p0.2) := hb.cell 2
  have hf := hb.free
  have HB := Lib.hid hb
  have hw : IntKind.i64.wrap (q - 1) = q - 1 := IntWalk.i64_in _ (by omega)
  clear hb hT
  go_enter Try.func39, Try.ntmps39
  go_wp2_with fail
  refine (within_of (r := true) (by simp; omega) _).mono ?_
  rintro e w' ⟨rfl, rfl⟩
  go_wp2
  go_ret2
  exact ⟨rfl, ⟨(HB.out.set 1 (.bool true)).set 2 (.string v), rfl⟩, (((Fr.refl (fun j => j = g) w').set (p := ⟨g, 1, none⟩) (.inl rfl) _).set (p := ⟨g, 2, none⟩) (.inl rfl) _)⟩
theorem get_0 (g : Nat) (q : Int) (p0 p1 p2 p3 p4 p5 p6 : Bool × ByteArray) (w : World) (hT : Tl w g q [p0, p1, p2, p3, p4, p5, p6]) (h7 : q ≤ 7) (hk : 0 < q) :
    Calls Try.prog 42 #[.pointer (some ⟨g, 0, none⟩), .int .i64 0] w fun e w' => e = .returned (.tuple #[.string p0.2, .bool p0.1]) ∧ Fr No w w' := by
  have hb := hT.bk
  have c0 : w.cell? ⟨g, 0, none⟩ = some (.int .i64 q) := hb.cell 0
  have c1 : w.cell? ⟨g, 1, none⟩ = some (.bool p0.1) := hb.cell 1
  have c2 : w.cell? ⟨g, 2, none⟩ = some (.string p0.2) := hb.cell 2
  have hw : IntKind.i64.wrap (q - 1) = q - 1 := IntWalk.i64_in _ (by omega)
  clear hb hT
  go_enter Try.func42, Try.ntmps42
  go_wp2_with fail
  refine (within_of (r := true) (by simp; omega) _).mono ?_
  rintro e w' ⟨rfl, rfl⟩
  go_wp2
  go_quiet (fail)
  go_wp2
  go_ret2
  exact ⟨rfl, (Fr.refl _ _).drewN _⟩
theorem drop_0 (g : Nat) (q : Int) (p0 p1 p2 p3 p4 p5 p6 : Bool × ByteArray) (w : World) (hT : Tl w g q [p0, p1, p2, p3, p4, p5, p6]) (h7 : q ≤ 7) (hk : 0 < q) :
    Calls Try.prog 45 #[.pointer (some ⟨g, 0, none⟩), .int .i64 0] w fun e w' => e = .returned (.bool p0.1) ∧ Tl w' g q ([p0, p1, p2, p3, p4, p5, p6].set 0 (false, ByteArray.empty)) ∧ Fr (fun j => j = g) w w' := by
  have hb := hT.bk
  have c0 : w.cell? ⟨g, 0, none⟩ = some (.int .i64 q) := hb.cell 0
  have c1 : w.cell? ⟨g, 1, none⟩ = some (.bool p0.1) := hb.cell 1
  have c2 : w.cell? ⟨g, 2, none⟩ = some (.string p0.2) := hb.cell 2
  have hf := hb.free
  have HB := Lib.hid hb
  have hw : IntKind.i64.wrap (q - 1) = q - 1 := IntWalk.i64_in _ (by omega)
  clear hb hT
  go_enter Try.func45, Try.ntmps45
  go_wp2_with fail
  refine (within_of (r := true) (by simp; omega) _).mono ?_
  rintro e w' ⟨rfl, rfl⟩
  go_wp2
  go_ret
  exact ⟨rfl, ⟨(HB.out.set 1 (.bool false)).set 2 (.string ByteArray.empty), rfl⟩, (((Fr.refl (fun j => j = g) w').set (p := ⟨g, 1, none⟩) (.inl rfl) _).set (p := ⟨g, 2, none⟩) (.inl rfl) _)⟩
theorem add_1 (g : Nat) (q : Int) (p0 p1 p2 p3 p4 p5 p6 : Bool × ByteArray) (v : ByteArray) (w : World) (hT : Tl w g q [p0, p1, p2, p3, p4, p5, p6]) (h7 : q ≤ 7) (hk : 1 < q) :
    Calls Try.prog 39 #[.pointer (some ⟨g, 0, none⟩), .int .i64 1, .string v] w fun e w' => e = .returned (.tuple #[.bool (!p1.1), .int .i64 0]) ∧ Tl w' g q ([p0, p1, p2, p3, p4, p5, p6].set 1 (true, v)) ∧ Fr (fun j => j = g) w w' := by
  have hb := hT.bk
  have c0 : w.cell? ⟨g, 0, none⟩ = some (.int .i64 q) := hb.cell 0
  have c3 : w.cell? ⟨g, 3, none⟩ = some (.bool p1.1) := hb.cell 3
  have c4 : w.cell? ⟨g, 4, none⟩ = some (.string p1.2) := hb.cell 4
  have hf := hb.free
  have HB := Lib.hid hb
  have hw : IntKind.i64.wrap (q - 1) = q - 1 := IntWalk.i64_in _ (by omega)
  clear hb hT
  go_enter Try.func39, Try.ntmps39
  go_wp2_with fail
  refine (within_of (r := true) (by simp; omega) _).mono ?_
  rintro e w' ⟨rfl, rfl⟩
  go_wp2
  go_ret2
  exact ⟨rfl, ⟨(HB.out.set 3 (.bool true)).set 4 (.string v), rfl⟩, (((Fr.refl (fun j => j = g) w').set (p := ⟨g, 3, none⟩) (.inl rfl) _).set (p := ⟨g, 4, none⟩) (.inl rfl) _)⟩
theorem get_1 (g : Nat) (q : Int) (p0 p1 p2 p3 p4 p5 p6 : Bool × ByteArray) (w : World) (hT : Tl w g q [p0, p1, p2, p3, p4, p5, p6]) (h7 : q ≤ 7) (hk : 1 < q) :
    Calls Try.prog 42 #[.pointer (some ⟨g, 0, none⟩), .int .i64 1] w fun e w' => e = .returned (.tuple #[.string p1.2, .bool p1.1]) ∧ Fr No w w' := by
  have hb := hT.bk
  have c0 : w.cell? ⟨g, 0, none⟩ = some (.int .i64 q) := hb.cell 0
  have c3 : w.cell? ⟨g, 3, none⟩ = some (.bool p1.1) := hb.cell 3
  have c4 : w.cell? ⟨g, 4, none⟩ = some (.string p1.2) := hb.cell 4
  have hw : IntKind.i64.wrap (q - 1) = q - 1 := IntWalk.i64_in _ (by omega)
  clear hb hT
  go_enter Try.func42, Try.ntmps42
  go_wp2_with fail
  refine (within_of (r := true) (by simp; omega) _).mono ?_
  rintro e w' ⟨rfl, rfl⟩
  go_wp2
  go_quiet (fail)
  go_wp2
  go_ret2
  exact ⟨rfl, (Fr.refl _ _).drewN _⟩
theorem drop_1 (g : Nat) (q : Int) (p0 p1 p2 p3 p4 p5 p6 : Bool × ByteArray) (w : World) (hT : Tl w g q [p0, p1, p2, p3, p4, p5, p6]) (h7 : q ≤ 7) (hk : 1 < q) :
    Calls Try.prog 45 #[.pointer (some ⟨g, 0, none⟩), .int .i64 1] w fun e w' => e = .returned (.bool p1.1) ∧ Tl w' g q ([p0, p1, p2, p3, p4, p5, p6].set 1 (false, ByteArray.empty)) ∧ Fr (fun j => j = g) w w' := by
  have hb := hT.bk
  have c0 : w.cell? ⟨g, 0, none⟩ = some (.int .i64 q) := hb.cell 0
  have c3 : w.cell? ⟨g, 3, none⟩ = some (.bool p1.1) := hb.cell 3
  have c4 : w.cell? ⟨g, 4, none⟩ = some (.string p1.2) := hb.cell 4
  have hf := hb.free
  have HB := Lib.hid hb
  have hw : IntKind.i64.wrap (q - 1) = q - 1 := IntWalk.i64_in _ (by omega)
  clear hb hT
  go_enter Try.func45, Try.ntmps45
  go_wp2_with fail
  refine (within_of (r := true) (by simp; omega) _).mono ?_
  rintro e w' ⟨rfl, rfl⟩
  go_wp2
  go_ret
  exact ⟨rfl, ⟨(HB.out.set 3 (.bool false)).set 4 (.string ByteArray.empty), rfl⟩, (((Fr.refl (fun j => j = g) w').set (p := ⟨g, 3, none⟩) (.inl rfl) _).set (p := ⟨g, 4, none⟩) (.inl rfl) _)⟩
theorem add_2 (g : Nat) (q : Int) (p0 p1 p2 p3 p4 p5 p6 : Bool × ByteArray) (v : ByteArray) (w : World) (hT : Tl w g q [p0, p1, p2, p3, p4, p5, p6]) (h7 : q ≤ 7) (hk : 2 < q) :
    Calls Try.prog 39 #[.pointer (some ⟨g, 0, none⟩), .int .i64 2, .string v] w fun e w' => e = .returned (.tuple #[.bool (!p2.1), .int .i64 0]) ∧ Tl w' g q ([p0, p1, p2, p3, p4, p5, p6].set 2 (true, v)) ∧ Fr (fun j => j = g) w w' := by
  have hb := hT.bk
  have c0 : w.cell? ⟨g, 0, none⟩ = some (.int .i64 q) := hb.cell 0
  have c5 : w.cell? ⟨g, 5, none⟩ = some (.bool p2.1) := hb.cell 5
  have c6 : w.cell? ⟨g, 6, none⟩ = some (.string p2.2) := hb.cell 6
  have hf := hb.free
  have HB := Lib.hid hb
  have hw : IntKind.i64.wrap (q - 1) = q - 1 := IntWalk.i64_in _ (by omega)
  clear hb hT
  go_enter Try.func39, Try.ntmps39
  go_wp2_with fail
  refine (within_of (r := true) (by simp; omega) _).mono ?_
  rintro e w' ⟨rfl, rfl⟩
  go_wp2
  go_ret2
  exact ⟨rfl, ⟨(HB.out.set 5 (.bool true)).set 6 (.string v), rfl⟩, (((Fr.refl (fun j => j = g) w').set (p := ⟨g, 5, none⟩) (.inl rfl) _).set (p := ⟨g, 6, none⟩) (.inl rfl) _)⟩
theorem get_2 (g : Nat) (q : Int) (p0 p1 p2 p3 p4 p5 p6 : Bool × ByteArray) (w : World) (hT : Tl w g q [p0, p1, p2, p3, p4, p5, p6]) (h7 : q ≤ 7) (hk : 2 < q) :
    Calls Try.prog 42 #[.pointer (some ⟨g, 0, none⟩), .int .i64 2] w fun e w' => e = .returned (.tuple #[.string p2.2, .bool p2.1]) ∧ Fr No w w' := by
  have hb := hT.bk
  have c0 : w.cell? ⟨g, 0, none⟩ = some (.int .i64 q) := hb.cell 0
  have c5 : w.cell? ⟨g, 5, none⟩ = some (.bool p2.1) := hb.cell 5
  have c6 : w.cell? ⟨g, 6, none⟩ = some (.string p2.2) := hb.cell 6
  have hw : IntKind.i64.wrap (q - 1) = q - 1 := IntWalk.i64_in _ (by omega)
  clear hb hT
  go_enter Try.func42, Try.ntmps42
  go_wp2_with fail
  refine (within_of (r := true) (by simp; omega) _).mono ?_
  rintro e w' ⟨rfl, rfl⟩
  go_wp2
  go_quiet (fail)
  go_wp2
  go_ret2
  exact ⟨rfl, (Fr.refl _ _).drewN _⟩
theorem drop_2 (g : Nat) (q : Int) (p0 p1 p2 p3 p4 p5 p6 : Bool × ByteArray) (w : World) (hT : Tl w g q [p0, p1, p2, p3, p4, p5, p6]) (h7 : q ≤ 7) (hk : 2 < q) :
    Calls Try.prog 45 #[.pointer (some ⟨g, 0, none⟩), .int .i64 2] w fun e w' => e = .returned (.bool p2.1) ∧ Tl w' g q ([p0, p1, p2, p3, p4, p5, p6].set 2 (false, ByteArray.empty)) ∧ Fr (fun j => j = g) w w' := by
  have hb := hT.bk
  have c0 : w.cell? ⟨g, 0, none⟩ = some (.int .i64 q) := hb.cell 0
  have c5 : w.cell? ⟨g, 5, none⟩ = some (.bool p2.1) := hb.cell 5
  have c6 : w.cell? ⟨g, 6, none⟩ = some (.string p2.2) := hb.cell 6
  have hf := hb.free
  have HB := Lib.hid hb
  have hw : IntKind.i64.wrap (q - 1) = q - 1 := IntWalk.i64_in _ (by omega)
  clear hb hT
  go_enter Try.func45, Try.ntmps45
  go_wp2_with fail
  refine (within_of (r := true) (by simp; omega) _).mono ?_
  rintro e w' ⟨rfl, rfl⟩
  go_wp2
  go_ret
  exact ⟨rfl, ⟨(HB.out.set 5 (.bool false)).set 6 (.string ByteArray.empty), rfl⟩, (((Fr.refl (fun j => j = g) w').set (p := ⟨g, 5, none⟩) (.inl rfl) _).set (p := ⟨g, 6, none⟩) (.inl rfl) _)⟩
theorem add_3 (g : Nat) (q : Int) (p0 p1 p2 p3 p4 p5 p6 : Bool × ByteArray) (v : ByteArray) (w : World) (hT : Tl w g q [p0, p1, p2, p3, p4, p5, p6]) (h7 : q ≤ 7) (hk : 3 < q) :
    Calls Try.prog 39 #[.pointer (some ⟨g, 0, none⟩), .int .i64 3, .string v] w fun e w' => e = .returned (.tuple #[.bool (!p3.1), .int .i64 0]) ∧ Tl w' g q ([p0, p1, p2, p3, p4, p5, p6].set 3 (true, v)) ∧ Fr (fun j => j = g) w w' := by
  have hb := hT.bk
  have c0 : w.cell? ⟨g, 0, none⟩ = some (.int .i64 q) := hb.cell 0
  have c7 : w.cell? ⟨g, 7, none⟩ = some (.bool p3.1) := hb.cell 7
  have c8 : w.cell? ⟨g, 8, none⟩ = some (.string p3.2) := hb.cell 8
  have hf := hb.free
  have HB := Lib.hid hb
  have hw : IntKind.i64.wrap (q - 1) = q - 1 := IntWalk.i64_in _ (by omega)
  clear hb hT
  go_enter Try.func39, Try.ntmps39
  go_wp2_with fail
  refine (within_of (r := true) (by simp; omega) _).mono ?_
  rintro e w' ⟨rfl, rfl⟩
  go_wp2
  go_ret2
  exact ⟨rfl, ⟨(HB.out.set 7 (.bool true)).set 8 (.string v), rfl⟩, (((Fr.refl (fun j => j = g) w').set (p := ⟨g, 7, none⟩) (.inl rfl) _).set (p := ⟨g, 8, none⟩) (.inl rfl) _)⟩
theorem get_3 (g : Nat) (q : Int) (p0 p1 p2 p3 p4 p5 p6 : Bool × ByteArray) (w : World) (hT : Tl w g q [p0, p1, p2, p3, p4, p5, p6]) (h7 : q ≤ 7) (hk : 3 < q) :
    Calls Try.prog 42 #[.pointer (some ⟨g, 0, none⟩), .int .i64 3] w fun e w' => e = .returned (.tuple #[.string p3.2, .bool p3.1]) ∧ Fr No w w' := by
  have hb := hT.bk
  have c0 : w.cell? ⟨g, 0, none⟩ = some (.int .i64 q) := hb.cell 0
  have c7 : w.cell? ⟨g, 7, none⟩ = some (.bool p3.1) := hb.cell 7
  have c8 : w.cell? ⟨g, 8, none⟩ = some (.string p3.2) := hb.cell 8
  have hw : IntKind.i64.wrap (q - 1) = q - 1 := IntWalk.i64_in _ (by omega)
  clear hb hT
  go_enter Try.func42, Try.ntmps42
  go_wp2_with fail
  refine (within_of (r := true) (by simp; omega) _).mono ?_
  rintro e w' ⟨rfl, rfl⟩
  go_wp2
  go_quiet (fail)
  go_wp2
  go_ret2
  exact ⟨rfl, (Fr.refl _ _).drewN _⟩
theorem drop_3 (g : Nat) (q : Int) (p0 p1 p2 p3 p4 p5 p6 : Bool × ByteArray) (w : World) (hT : Tl w g q [p0, p1, p2, p3, p4, p5, p6]) (h7 : q ≤ 7) (hk : 3 < q) :
    Calls Try.prog 45 #[.pointer (some ⟨g, 0, none⟩), .int .i64 3] w fun e w' => e = .returned (.bool p3.1) ∧ Tl w' g q ([p0, p1, p2, p3, p4, p5, p6].set 3 (false, ByteArray.empty)) ∧ Fr (fun j => j = g) w w' := by
  have hb := hT.bk
  have c0 : w.cell? ⟨g, 0, none⟩ = some (.int .i64 q) := hb.cell 0
  have c7 : w.cell? ⟨g, 7, none⟩ = some (.bool p3.1) := hb.cell 7
  have c8 : w.cell? ⟨g, 8, none⟩ = some (.string p3.2) := hb.cell 8
  have hf := hb.free
  have HB := Lib.hid hb
  have hw : IntKind.i64.wrap (q - 1) = q - 1 := IntWalk.i64_in _ (by omega)
  clear hb hT
  go_enter Try.func45, Try.ntmps45
  go_wp2_with fail
  refine (within_of (r := true) (by simp; omega) _).mono ?_
  rintro e w' ⟨rfl, rfl⟩
  go_wp2
  go_ret
  exact ⟨rfl, ⟨(HB.out.set 7 (.bool false)).set 8 (.string ByteArray.empty), rfl⟩, (((Fr.refl (fun j => j = g) w').set (p := ⟨g, 7, none⟩) (.inl rfl) _).set (p := ⟨g, 8, none⟩) (.inl rfl) _)⟩
theorem add_4 (g : Nat) (q : Int) (p0 p1 p2 p3 p4 p5 p6 : Bool × ByteArray) (v : ByteArray) (w : World) (hT : Tl w g q [p0, p1, p2, p3, p4, p5, p6]) (h7 : q ≤ 7) (hk : 4 < q) :
    Calls Try.prog 39 #[.pointer (some ⟨g, 0, none⟩), .int .i64 4, .string v] w fun e w' => e = .returned (.tuple #[.bool (!p4.1), .int .i64 0]) ∧ Tl w' g q ([p0, p1, p2, p3, p4, p5, p6].set 4 (true, v)) ∧ Fr (fun j => j = g) w w' := by
  have hb := hT.bk
  have c0 : w.cell? ⟨g, 0, none⟩ = some (.int .i64 q) := hb.cell 0
  have c9 : w.cell? ⟨g, 9, none⟩ = some (.bool p4.1) := hb.cell 9
  have c10 : w.cell? ⟨g, 10, none⟩ = some (.string p4.2) := hb.cell 10
  have hf := hb.free
  have HB := Lib.hid hb
  have hw : IntKind.i64.wrap (q - 1) = q - 1 := IntWalk.i64_in _ (by omega)
  clear hb hT
  go_enter Try.func39, Try.ntmps39
  go_wp2_with fail
  refine (within_of (r := true) (by simp; omega) _).mono ?_
  rintro e w' ⟨rfl, rfl⟩
  go_wp2
  go_ret2
  exact ⟨rfl, ⟨(HB.out.set 9 (.bool true)).set 10 (.string v), rfl⟩, (((Fr.refl (fun j => j = g) w').set (p := ⟨g, 9, none⟩) (.inl rfl) _).set (p := ⟨g, 10, none⟩) (.inl rfl) _)⟩
theorem get_4 (g : Nat) (q : Int) (p0 p1 p2 p3 p4 p5 p6 : Bool × ByteArray) (w : World) (hT : Tl w g q [p0, p1, p2, p3, p4, p5, p6]) (h7 : q ≤ 7) (hk : 4 < q) :
    Calls Try.prog 42 #[.pointer (some ⟨g, 0, none⟩), .int .i64 4] w fun e w' => e = .returned (.tuple #[.string p4.2, .bool p4.1]) ∧ Fr No w w' := by
  have hb := hT.bk
  have c0 : w.cell? ⟨g, 0, none⟩ = some (.int .i64 q) := hb.cell 0
  have c9 : w.cell? ⟨g, 9, none⟩ = some (.bool p4.1) := hb.cell 9
  have c10 : w.cell? ⟨g, 10, none⟩ = some (.string p4.2) := hb.cell 10
  have hw : IntKind.i64.wrap (q - 1) = q - 1 := IntWalk.i64_in _ (by omega)
  clear hb hT
  go_enter Try.func42, Try.ntmps42
  go_wp2_with fail
  refine (within_of (r := true) (by simp; omega) _).mono ?_
  rintro e w' ⟨rfl, rfl⟩
  go_wp2
  go_quiet (fail)
  go_wp2
  go_ret2
  exact ⟨rfl, (Fr.refl _ _).drewN _⟩
theorem drop_4 (g : Nat) (q : Int) (p0 p1 p2 p3 p4 p5 p6 : Bool × ByteArray) (w : World) (hT : Tl w g q [p0, p1, p2, p3, p4, p5, p6]) (h7 : q ≤ 7) (hk : 4 < q) :
    Calls Try.prog 45 #[.pointer (some ⟨g, 0, none⟩), .int .i64 4] w fun e w' => e = .returned (.bool p4.1) ∧ Tl w' g q ([p0, p1, p2, p3, p4, p5, p6].set 4 (false, ByteArray.empty)) ∧ Fr (fun j => j = g) w w' := by
  have hb := hT.bk
  have c0 : w.cell? ⟨g, 0, none⟩ = some (.int .i64 q) := hb.cell 0
  have c9 : w.cell? ⟨g, 9, none⟩ = some (.bool p4.1) := hb.cell 9
  have c10 : w.cell? ⟨g, 10, none⟩ = some (.string p4.2) := hb.cell 10
  have hf := hb.free
  have HB := Lib.hid hb
  have hw : IntKind.i64.wrap (q - 1) = q - 1 := IntWalk.i64_in _ (by omega)
  clear hb hT
  go_enter Try.func45, Try.ntmps45
  go_wp2_with fail
  refine (within_of (r := true) (by simp; omega) _).mono ?_
  rintro e w' ⟨rfl, rfl⟩
  go_wp2
  go_ret
  exact ⟨rfl, ⟨(HB.out.set 9 (.bool false)).set 10 (.string ByteArray.empty), rfl⟩, (((Fr.refl (fun j => j = g) w').set (p := ⟨g, 9, none⟩) (.inl rfl) _).set (p := ⟨g, 10, none⟩) (.inl rfl) _)⟩
theorem add_5 (g : Nat) (q : Int) (p0 p1 p2 p3 p4 p5 p6 : Bool × ByteArray) (v : ByteArray) (w : World) (hT : Tl w g q [p0, p1, p2, p3, p4, p5, p6]) (h7 : q ≤ 7) (hk : 5 < q) :
    Calls Try.prog 39 #[.pointer (some ⟨g, 0, none⟩), .int .i64 5, .string v] w fun e w' => e = .returned (.tuple #[.bool (!p5.1), .int .i64 0]) ∧ Tl w' g q ([p0, p1, p2, p3, p4, p5, p6].set 5 (true, v)) ∧ Fr (fun j => j = g) w w' := by
  have hb := hT.bk
  have c0 : w.cell? ⟨g, 0, none⟩ = some (.int .i64 q) := hb.cell 0
  have c11 : w.cell? ⟨g, 11, none⟩ = some (.bool p5.1) := hb.cell 11
  have c12 : w.cell? ⟨g, 12, none⟩ = some (.string p5.2) := hb.cell 12
  have hf := hb.free
  have HB := Lib.hid hb
  have hw : IntKind.i64.wrap (q - 1) = q - 1 := IntWalk.i64_in _ (by omega)
  clear hb hT
  go_enter Try.func39, Try.ntmps39
  go_wp2_with fail
  refine (within_of (r := true) (by simp; omega) _).mono ?_
  rintro e w' ⟨rfl, rfl⟩
  go_wp2
  go_ret2
  exact ⟨rfl, ⟨(HB.out.set 11 (.bool true)).set 12 (.string v), rfl⟩, (((Fr.refl (fun j => j = g) w').set (p := ⟨g, 11, none⟩) (.inl rfl) _).set (p := ⟨g, 12, none⟩) (.inl rfl) _)⟩
theorem get_5 (g : Nat) (q : Int) (p0 p1 p2 p3 p4 p5 p6 : Bool × ByteArray) (w : World) (hT : Tl w g q [p0, p1, p2, p3, p4, p5, p6]) (h7 : q ≤ 7) (hk : 5 < q) :
    Calls Try.prog 42 #[.pointer (some ⟨g, 0, none⟩), .int .i64 5] w fun e w' => e = .returned (.tuple #[.string p5.2, .bool p5.1]) ∧ Fr No w w' := by
  have hb := hT.bk
  have c0 : w.cell? ⟨g, 0, none⟩ = some (.int .i64 q) := hb.cell 0
  have c11 : w.cell? ⟨g, 11, none⟩ = some (.bool p5.1) := hb.cell 11
  have c12 : w.cell? ⟨g, 12, none⟩ = some (.string p5.2) := hb.cell 12
  have hw : IntKind.i64.wrap (q - 1) = q - 1 := IntWalk.i64_in _ (by omega)
  clear hb hT
  go_enter Try.func42, Try.ntmps42
  go_wp2_with fail
  refine (within_of (r := true) (by simp; omega) _).mono ?_
  rintro e w' ⟨rfl, rfl⟩
  go_wp2
  go_quiet (fail)
  go_wp2
  go_ret2
  exact ⟨rfl, (Fr.refl _ _).drewN _⟩
theorem drop_5 (g : Nat) (q : Int) (p0 p1 p2 p3 p4 p5 p6 : Bool × ByteArray) (w : World) (hT : Tl w g q [p0, p1, p2, p3, p4, p5, p6]) (h7 : q ≤ 7) (hk : 5 < q) :
    Calls Try.prog 45 #[.pointer (some ⟨g, 0, none⟩), .int .i64 5] w fun e w' => e = .returned (.bool p5.1) ∧ Tl w' g q ([p0, p1, p2, p3, p4, p5, p6].set 5 (false, ByteArray.empty)) ∧ Fr (fun j => j = g) w w' := by
  have hb := hT.bk
  have c0 : w.cell? ⟨g, 0, none⟩ = some (.int .i64 q) := hb.cell 0
  have c11 : w.cell? ⟨g, 11, none⟩ = some (.bool p5.1) := hb.cell 11
  have c12 : w.cell? ⟨g, 12, none⟩ = some (.string p5.2) := hb.cell 12
  have hf := hb.free
  have HB := Lib.hid hb
  have hw : IntKind.i64.wrap (q - 1) = q - 1 := IntWalk.i64_in _ (by omega)
  clear hb hT
  go_enter Try.func45, Try.ntmps45
  go_wp2_with fail
  refine (within_of (r := true) (by simp; omega) _).mono ?_
  rintro e w' ⟨rfl, rfl⟩
  go_wp2
  go_ret
  exact ⟨rfl, ⟨(HB.out.set 11 (.bool false)).set 12 (.string ByteArray.empty), rfl⟩, (((Fr.refl (fun j => j = g) w').set (p := ⟨g, 11, none⟩) (.inl rfl) _).set (p := ⟨g, 12, none⟩) (.inl rfl) _)⟩
theorem add_6 (g : Nat) (q : Int) (p0 p1 p2 p3 p4 p5 p6 : Bool × ByteArray) (v : ByteArray) (w : World) (hT : Tl w g q [p0, p1, p2, p3, p4, p5, p6]) (h7 : q ≤ 7) (hk : 6 < q) :
    Calls Try.prog 39 #[.pointer (some ⟨g, 0, none⟩), .int .i64 6, .string v] w fun e w' => e = .returned (.tuple #[.bool (!p6.1), .int .i64 0]) ∧ Tl w' g q ([p0, p1, p2, p3, p4, p5, p6].set 6 (true, v)) ∧ Fr (fun j => j = g) w w' := by
  have hb := hT.bk
  have c0 : w.cell? ⟨g, 0, none⟩ = some (.int .i64 q) := hb.cell 0
  have c13 : w.cell? ⟨g, 13, none⟩ = some (.bool p6.1) := hb.cell 13
  have c14 : w.cell? ⟨g, 14, none⟩ = some (.string p6.2) := hb.cell 14
  have hf := hb.free
  have HB := Lib.hid hb
  have hw : IntKind.i64.wrap (q - 1) = q - 1 := IntWalk.i64_in _ (by omega)
  clear hb hT
  go_enter Try.func39, Try.ntmps39
  go_wp2_with fail
  refine (within_of (r := true) (by simp; omega) _).mono ?_
  rintro e w' ⟨rfl, rfl⟩
  go_wp2
  go_ret2
  exact ⟨rfl, ⟨(HB.out.set 13 (.bool true)).set 14 (.string v), rfl⟩, (((Fr.refl (fun j => j = g) w').set (p := ⟨g, 13, none⟩) (.inl rfl) _).set (p := ⟨g, 14, none⟩) (.inl rfl) _)⟩
theorem get_6 (g : Nat) (q : Int) (p0 p1 p2 p3 p4 p5 p6 : Bool × ByteArray) (w : World) (hT : Tl w g q [p0, p1, p2, p3, p4, p5, p6]) (h7 : q ≤ 7) (hk : 6 < q) :
    Calls Try.prog 42 #[.pointer (some ⟨g, 0, none⟩), .int .i64 6] w fun e w' => e = .returned (.tuple #[.string p6.2, .bool p6.1]) ∧ Fr No w w' := by
  have hb := hT.bk
  have c0 : w.cell? ⟨g, 0, none⟩ = some (.int .i64 q) := hb.cell 0
  have c13 : w.cell? ⟨g, 13, none⟩ = some (.bool p6.1) := hb.cell 13
  have c14 : w.cell? ⟨g, 14, none⟩ = some (.string p6.2) := hb.cell 14
  have hw : IntKind.i64.wrap (q - 1) = q - 1 := IntWalk.i64_in _ (by omega)
  clear hb hT
  go_enter Try.func42, Try.ntmps42
  go_wp2_with fail
  refine (within_of (r := true) (by simp; omega) _).mono ?_
  rintro e w' ⟨rfl, rfl⟩
  go_wp2
  go_quiet (fail)
  go_wp2
  go_ret2
  exact ⟨rfl, (Fr.refl _ _).drewN _⟩
theorem drop_6 (g : Nat) (q : Int) (p0 p1 p2 p3 p4 p5 p6 : Bool × ByteArray) (w : World) (hT : Tl w g q [p0, p1, p2, p3, p4, p5, p6]) (h7 : q ≤ 7) (hk : 6 < q) :
    Calls Try.prog 45 #[.pointer (some ⟨g, 0, none⟩), .int .i64 6] w fun e w' => e = .returned (.bool p6.1) ∧ Tl w' g q ([p0, p1, p2, p3, p4, p5, p6].set 6 (false, ByteArray.empty)) ∧ Fr (fun j => j = g) w w' := by
  have hb := hT.bk
  have c0 : w.cell? ⟨g, 0, none⟩ = some (.int .i64 q) := hb.cell 0
  have c13 : w.cell? ⟨g, 13, none⟩ = some (.bool p6.1) := hb.cell 13
  have c14 : w.cell? ⟨g, 14, none⟩ = some (.string p6.2) := hb.cell 14
  have hf := hb.free
  have HB := Lib.hid hb
  have hw : IntKind.i64.wrap (q - 1) = q - 1 := IntWalk.i64_in _ (by omega)
  clear hb hT
  go_enter Try.func45, Try.ntmps45
  go_wp2_with fail
  refine (within_of (r := true) (by simp; omega) _).mono ?_
  rintro e w' ⟨rfl, rfl⟩
  go_wp2
  go_ret
  exact ⟨rfl, ⟨(HB.out.set 13 (.bool false)).set 14 (.string ByteArray.empty), rfl⟩, (((Fr.refl (fun j => j = g) w').set (p := ⟨g, 13, none⟩) (.inl rfl) _).set (p := ⟨g, 14, none⟩) (.inl rfl) _)⟩
theorem add_ (g k : Nat) (q : Int) (s : List (Bool × ByteArray)) (v : ByteArray) (w : World) (hT : Tl w g q s) (h7 : q ≤ 7) (hk : (k : Int) < q) :
    Calls Try.prog 39 #[.pointer (some ⟨g, 0, none⟩), .int .i64 (k : Int), .string v] w fun e w' => e = .returned (.tuple #[.bool (!(s.getD k (false, ByteArray.empty)).1), .int .i64 0]) ∧ Tl w' g q (s.set k (true, v)) ∧ Fr (fun j => j = g) w w' := by
  obtain ⟨p0, p1, p2, p3, p4, p5, p6, rfl⟩ := seven hT.2
  have hk7 : k < 7 := by omega
  match k, hk7, hk with
  | 0, _, hk => exact add_0 g q p0 p1 p2 p3 p4 p5 p6 v w hT h7 hk
  | 1, _, hk => exact add_1 g q p0 p1 p2 p3 p4 p5 p6 v w hT h7 hk
  | 2, _, hk => exact add_2 g q p0 p1 p2 p3 p4 p5 p6 v w hT h7 hk
  | 3, _, hk => exact add_3 g q p0 p1 p2 p3 p4 p5 p6 v w hT h7 hk
  | 4, _, hk => exact add_4 g q p0 p1 p2 p3 p4 p5 p6 v w hT h7 hk
  | 5, _, hk => exact add_5 g q p0 p1 p2 p3 p4 p5 p6 v w hT h7 hk
  | 6, _, hk => exact add_6 g q p0 p1 p2 p3 p4 p5 p6 v w hT h7 hk
theorem get_ (g k : Nat) (q : Int) (s : List (Bool × ByteArray)) (w : World) (hT : Tl w g q s) (h7 : q ≤ 7) (hk : (k : Int) < q) :
    Calls Try.prog 42 #[.pointer (some ⟨g, 0, none⟩), .int .i64 (k : Int)] w fun e w' => e = .returned (.tuple #[.string (s.getD k (false, ByteArray.empty)).2, .bool (s.getD k (false, ByteArray.empty)).1]) ∧ Fr No w w' := by
  obtain ⟨p0, p1, p2, p3, p4, p5, p6, rfl⟩ := seven hT.2
  have hk7 : k < 7 := by omega
  match k, hk7, hk with
  | 0, _, hk => exact get_0 g q p0 p1 p2 p3 p4 p5 p6 w hT h7 hk
  | 1, _, hk => exact get_1 g q p0 p1 p2 p3 p4 p5 p6 w hT h7 hk
  | 2, _, hk => exact get_2 g q p0 p1 p2 p3 p4 p5 p6 w hT h7 hk
  | 3, _, hk => exact get_3 g q p0 p1 p2 p3 p4 p5 p6 w hT h7 hk
  | 4, _, hk => exact get_4 g q p0 p1 p2 p3 p4 p5 p6 w hT h7 hk
  | 5, _, hk => exact get_5 g q p0 p1 p2 p3 p4 p5 p6 w hT h7 hk
  | 6, _, hk => exact get_6 g q p0 p1 p2 p3 p4 p5 p6 w hT h7 hk
theorem drop_ (g k : Nat) (q : Int) (s : List (Bool × ByteArray)) (w : World) (hT : Tl w g q s) (h7 : q ≤ 7) (hk : (k : Int) < q) :
    Calls Try.prog 45 #[.pointer (some ⟨g, 0, none⟩), .int .i64 (k : Int)] w fun e w' => e = .returned (.bool (s.getD k (false, ByteArray.empty)).1) ∧ Tl w' g q (s.set k (false, ByteArray.empty)) ∧ Fr (fun j => j = g) w w' := by
  obtain ⟨p0, p1, p2, p3, p4, p5, p6, rfl⟩ := seven hT.2
  have hk7 : k < 7 := by omega
  match k, hk7, hk with
  | 0, _, hk => exact drop_0 g q p0 p1 p2 p3 p4 p5 p6 w hT h7 hk
  | 1, _, hk => exact drop_1 g q p0 p1 p2 p3 p4 p5 p6 w hT h7 hk
  | 2, _, hk => exact drop_2 g q p0 p1 p2 p3 p4 p5 p6 w hT h7 hk
  | 3, _, hk => exact drop_3 g q p0 p1 p2 p3 p4 p5 p6 w hT h7 hk
  | 4, _, hk => exact drop_4 g q p0 p1 p2 p3 p4 p5 p6 w hT h7 hk
  | 5, _, hk => exact drop_5 g q p0 p1 p2 p3 p4 p5 p6 w hT h7 hk
  | 6, _, hk => exact drop_6 g q p0 p1 p2 p3 p4 p5 p6 w hT h7 hk
end Go.Proofs.Ytobnehbcnlhchaa.VtS
