/- Streams: NewStream, Next, Lost, Held, walked. Conditions: none. -/
import Derived.Test.YtfpjdgkooikeoaaDoorStrD
namespace Go.Proofs.YtfpjdgkooikeoaaDoor.Sl
open Go.RowKit Go.Proofs.YtfpjdgkooikeoaaDoor.Mem
set_option linter.unusedVariables false
set_option linter.unusedSimpArgs false
theorem Tab.pos {w : World} (h : Tab w) : 0 < w.heap.size := World.block_lt_of_cell? w ⟨0, 0, none⟩ (h 0 (by omega))
theorem sNew2 (w : World) (hT : Tab w) : Calls Tryd.prog 22 #[] w fun e w' => e = .returned (.pointer (some ⟨w.heap.size, 0, none⟩)) ∧ Fr No w w' ∧ Str w' w.heap.size none [] [] 0 ∧ w.heap.size < w'.heap.size := by
  have hp := hT.pos
  clear hT
  go_enter Tryd.func22, Tryd.ntmps22
  go_wp2
  go_ret
  have hB := Bk.new w 61 [.slice none 0 0, .slice none 0 0, .int .i64 0]
  exact ⟨rfl, (Fr.refl _ _).alloc _, ⟨⟨none, 0, .slice none 0 0, hB, RD.nil _ _, Nat.le_refl _, RO.nil _ _ _⟩, (fun p hp => by cases hp), by omega, (fun k hk => by cases hk)⟩, hB.lt⟩
set_option maxHeartbeats 2000000 in
theorem sNext_none (sb : Nat) (fb : Option Nat) (hd : List UInt8) (lost : Nat) (w : World) (hS : Str w sb fb hd [] lost) :
    Calls Tryd.prog 24 #[.pointer (some ⟨sb, 0, none⟩)] w fun e w' => e = .returned (.tuple #[.slice none 0 0, .bool false]) ∧ w' = w := by
  obtain ⟨A, c, vf, b1, b2, b3, b4⟩ := hS.bk
  obtain ⟨Af, cf, rfl, _⟩ := b4.val
  obtain ⟨y0, y1, y2, yf⟩ := b1.three
  clear hS b1 b2 b3 b4
  rw [List.length_nil] at y1
  go_enter Tryd.func24, Tryd.ntmps24
  go_wp2
  go_ret2
  exact ⟨rfl, rfl⟩
theorem Str.pop {w : World} {sb : Nat} {fb fb' : Option Nat} {hd : List UInt8} {p : HL} {ps : List HL} {lost : Nat} (h : Str w sb fb hd (p :: ps) lost) (v : Value) (hr : RO w 22 fb' v ps.length (ps.map HL.v)) (hf : fb' = none ∨ fb' = fb) : Str (w.setCell ⟨sb, 1, none⟩ v) sb fb' hd ps lost ∧ Fr (fun k => k = sb) w (w.setCell ⟨sb, 1, none⟩ v) := by
  obtain ⟨A, c, vf, b1, b2, b3, b4⟩ := h.bk
  have hF : Fr (fun k => k = sb) w (w.setCell ⟨sb, 1, none⟩ v) := (Fr.refl (fun k => k = sb) w).set (p := ⟨sb, 1, none⟩) (.inl rfl) _
  have hne : fb' ≠ some sb := fun q => (hr.bt q).ne b1.bt (by decide) rfl
  refine ⟨⟨⟨A, c, v, b1.set 1 _, b2.fr hF (fun k q => h.far k (.inl q)), b3, hr.fr hF (fun k hk q => hne (by rw [hk, q]))⟩, fun x hx => ⟨(h.rd x (List.mem_cons_of_mem _ hx)).1.fr hF (fun k q => h.far k (.inl q)), (h.rd x (List.mem_cons_of_mem _ hx)).2⟩, h.np, fun k hk => ?_⟩, hF⟩
  rcases hf with q | q
  · rw [q] at hk; cases hk
  · exact h.nf k (by rw [← q]; exact hk)
set_option maxHeartbeats 2000000 in
theorem sNext (sb : Nat) (fb : Option Nat) (hd : List UInt8) (p : HL) (ps : List HL) (lost : Nat) (w : World) (hS : Str w sb fb hd (p :: ps) lost) :
    Calls Tryd.prog 24 #[.pointer (some ⟨sb, 0, none⟩)] w fun e w' => e = .returned (.tuple #[p.v, .bool true]) ∧ ∃ fb', Str w' sb fb' hd ps lost ∧ Fr (fun k => k = sb) w w' ∧ (fb' = none ∨ fb' = fb) := by
  have HS := Lib.hid hS
  obtain ⟨A, c, vf, b1, b2, b3, b4⟩ := hS.bk
  obtain ⟨g, off, cap, rfl, rfl, hle, hcell⟩ := b4.at_ (by simp)
  have x0 := hcell 0 p.v rfl
  rw [Nat.add_zero] at x0
  obtain ⟨N, hN⟩ : ∃ N, ps.length = N := ⟨_, rfl⟩
  rw [List.length_cons, hN] at b1 b4 hle
  rw [List.map_cons] at b4
  have HT := Lib.hid b4.tail
  obtain ⟨y0, y1, y2, yf⟩ := b1.three
  have HN := Lib.hid hN
  have hNz : ((N : Int) + 1 == 0) = false := by rw [beq_eq_false_iff_ne]; omega
  have hNi : (0 : Int) < (N : Int) + 1 := by omega
  generalize p.v = pv at *
  clear hS b1 b2 b3 b4 hcell hN
  by_cases hc1 : cap = 1
  · obtain rfl : N = 0 := by omega
    have hst := HS.out.pop (.slice (some ⟨g, off, none⟩) 0 0) (by rw [HN.out]; exact HT.out.1 hc1) (.inl rfl)
    have HST := Lib.hid hst
    clear hst HS HT
    subst hc1
    go_enter Tryd.func24, Tryd.ntmps24
    go_wp2
    go_ret2
    exact ⟨rfl, _, HST.out.1, HST.out.2, .inl rfl⟩
  · have hst := HS.out.pop (.slice (some ⟨g, off + 1, none⟩) N (cap - 1)) (by rw [HN.out]; exact HT.out.2 hc1) (.inr rfl)
    have HST := Lib.hid hst
    clear hst HS HT
    have hc0 : ¬ (cap - 1 = 0) := by omega
    have h1c : 1 ≤ cap := by omega
    have h1ci : (1 : Int) ≤ (cap : Int) := by omega
    have h1n : (1 : Int) ≤ (N : Int) + 1 := by omega
    go_enter Tryd.func24, Tryd.ntmps24
    go_wp2
    go_ret2
    exact ⟨rfl, _, HST.out.1, HST.out.2, .inr rfl⟩
set_option maxHeartbeats 2000000 in
theorem sLost (sb : Nat) (fb : Option Nat) (hd : List UInt8) (ps : List HL) (lost : Nat) (w : World) (hS : Str w sb fb hd ps lost) :
    Calls Tryd.prog 25 #[.pointer (some ⟨sb, 0, none⟩)] w fun e w' => e = .returned (.int .i64 (lost : Int)) ∧ w' = w := by
  obtain ⟨A, c, vf, b1, b2, b3, b4⟩ := hS.bk
  obtain ⟨y0, y1, y2, yf⟩ := b1.three
  clear hS b1 b2 b3 b4
  go_enter Tryd.func25, Tryd.ntmps25
  go_wp2
  go_ret
  exact ⟨rfl, rfl⟩
set_option maxHeartbeats 2000000 in
theorem sHeld (sb : Nat) (fb : Option Nat) (hd : List UInt8) (ps : List HL) (lost : Nat) (w : World) (hS : Str w sb fb hd ps lost) :
    Calls Tryd.prog 26 #[.pointer (some ⟨sb, 0, none⟩)] w fun e w' => e = .returned (.int .i64 (hd.length : Int)) ∧ w' = w := by
  obtain ⟨A, c, vf, b1, b2, b3, b4⟩ := hS.bk
  obtain ⟨y0, y1, y2, yf⟩ := b1.three
  clear hS b1 b2 b3 b4
  go_enter Tryd.func26, Tryd.ntmps26
  go_wp2
  go_ret
  exact ⟨rfl, rfl⟩
end Go.Proofs.YtfpjdgkooikeoaaDoor.Sl
