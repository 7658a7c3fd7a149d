/- Three things side by side, none or kept apart: the block that names them. Conditions: none. -/
import Derived.Test.YtobnehbcnlhchaaVtH
namespace Go.Proofs.Ytobnehbcnlhchaa.Vt
open Go.RowKit Go.Proofs.Ytobnehbcnlhchaa.Mem
set_option linter.unusedVariables false
set_option linter.unusedSimpArgs false
structure Slot where
  t : TB
  n : Nat
  said : List Int
  spoke : List Bool
def Slot.pa (s : Option Slot) : Option Addr := s.map fun s => ⟨s.t.a, 0, none⟩
def Slot.pb (s : Option Slot) : Option Addr := s.map fun s => ⟨s.t.b, 0, none⟩
def Slot.pr (s : Option Slot) : Option Addr := s.map fun s => ⟨s.t.r, 0, none⟩
def Slot.v (s : Option Slot) : Value := .agg #[.pointer (Slot.pa s), .pointer (Slot.pb s), .pointer (Slot.pr s)]
def cells9 (f : Nat → Option Slot) : List Value :=
  [.pointer (Slot.pa (f 0)), .pointer (Slot.pb (f 0)), .pointer (Slot.pr (f 0)), .pointer (Slot.pa (f 1)), .pointer (Slot.pb (f 1)), .pointer (Slot.pr (f 1)), .pointer (Slot.pa (f 2)), .pointer (Slot.pb (f 2)), .pointer (Slot.pr (f 2))]
/-- one of the three is another -/
def upd (f : Nat → Option Slot) (k : Nat) (s : Option Slot) : Nat → Option Slot := fun i => if i = k then s else f i
theorem upd_same (f : Nat → Option Slot) (k : Nat) (s : Option Slot) : upd f k s k = s := by simp [upd]
theorem upd_other (f : Nat → Option Slot) {k i : Nat} (h : i ≠ k) (s : Option Slot) : upd f k s i = f i := by simp [upd, h]
structure Sys (n0 L : Nat) (w : World) (f : Nat → Option Slot) : Prop where
  blk : Bk w L 45 (cells9 f)
  at_ : n0 ≤ L
  th : ∀ i x, f i = some x → Th w x.t x.n x.said x.spoke ∧ ∀ k, x.t.has k → n0 ≤ k
  apart : ∀ i j x y, i ≠ j → f i = some x → f j = some y → ∀ k, x.t.has k → ¬ y.t.has k
section
variable {n0 L : Nat} {w w1 : World} {f : Nat → Option Slot}
theorem Sys.fr (h : Sys n0 L w f) (hF : Fr No w w1) : Sys n0 L w1 f := ⟨h.blk.fr hF id, h.at_, fun i x hx => ⟨(h.th i x hx).1.fr hF (fun _ _ q => q), (h.th i x hx).2⟩, h.apart⟩
theorem Sys.off (h : Sys n0 L w f) {i : Nat} {x : Slot} (hx : f i = some x) : ¬ x.t.has L := fun hk => by
  rcases (h.th i x hx).1.bt hk with q | q | q | q | q
  · exact q.ne h.blk.bt (by decide) rfl
  · exact q.ne h.blk.bt (by decide) rfl
  · exact q.ne h.blk.bt (by decide) rfl
  · exact q.ne h.blk.bt (by decide) rfl
  · exact q.ne h.blk.bt (by decide) rfl
/-- one of them has taken a step -/
theorem Sys.step (h : Sys n0 L w f) {k : Nat} {x : Slot} (hx : f k = some x) {said' : List Int} {spoke' : List Bool} (hT : Th w1 x.t x.n said' spoke') (hF : Fr x.t.has w w1) : Sys n0 L w1 (upd f k (some ⟨x.t, x.n, said', spoke'⟩)) := by
  have hc : cells9 (upd f k (some ⟨x.t, x.n, said', spoke'⟩)) = cells9 f := by
    have ea : ∀ i, Slot.pa (upd f k (some ⟨x.t, x.n, said', spoke'⟩) i) = Slot.pa (f i) ∧ Slot.pb (upd f k (some ⟨x.t, x.n, said', spoke'⟩) i) = Slot.pb (f i) ∧ Slot.pr (upd f k (some ⟨x.t, x.n, said', spoke'⟩) i) = Slot.pr (f i) := fun i => by
      unfold upd
      split
      · rename_i e; subst e; rw [hx]; exact ⟨rfl, rfl, rfl⟩
      · exact ⟨rfl, rfl, rfl⟩
    unfold cells9
    rw [(ea 0).1, (ea 0).2.1, (ea 0).2.2, (ea 1).1, (ea 1).2.1, (ea 1).2.2, (ea 2).1, (ea 2).2.1, (ea 2).2.2]
  have hb : ∀ i y, upd f k (some ⟨x.t, x.n, said', spoke'⟩) i = some y → ∃ z, f i = some z ∧ z.t = y.t := fun i y hy => by
    unfold upd at hy
    split at hy
    · rename_i e; subst e; cases hy; exact ⟨x, hx, rfl⟩
    · exact ⟨y, hy, rfl⟩
  refine ⟨by rw [hc]; exact h.blk.fr hF (h.off hx), h.at_, fun i y hy => ?_, fun i j y z hij hy hz q hq hzq => ?_⟩
  · unfold upd at hy
    split at hy
    · cases hy; exact ⟨hT, (h.th k x hx).2⟩
    · rename_i ne
      obtain ⟨h1, h2⟩ := h.th i y hy
      exact ⟨h1.fr hF (fun q hq hxq => h.apart i k y x ne hy hx q hq hxq), h2⟩
  · obtain ⟨y', hy', ey⟩ := hb i y hy
    obtain ⟨z', hz', ez⟩ := hb j z hz
    exact h.apart i j y' z' hij hy' hz' q (by rw [ey]; exact hq) (by rw [ez]; exact hzq)
/-- the three cells of number k are written -/
theorem Sys.put (h : Sys n0 L w f) (k : Nat) (hk : k < 3) (s : Option Slot) (hs : ∀ x, s = some x → Th w x.t x.n x.said x.spoke ∧ ∀ q, x.t.has q → n0 ≤ q ∧ ∀ i y, f i = some y → i ≠ k → ¬ y.t.has q) :
    Sys n0 L (((w.setCell ⟨L, 3 * k, none⟩ (.pointer (Slot.pa s))).setCell ⟨L, 3 * k + 1, none⟩ (.pointer (Slot.pb s))).setCell ⟨L, 3 * k + 2, none⟩ (.pointer (Slot.pr s))) (upd f k s) := by
  have hF : Fr (fun j => j = L) w (((w.setCell ⟨L, 3 * k, none⟩ (.pointer (Slot.pa s))).setCell ⟨L, 3 * k + 1, none⟩ (.pointer (Slot.pb s))).setCell ⟨L, 3 * k + 2, none⟩ (.pointer (Slot.pr s))) := (((Fr.refl (fun j => j = L) w).set (p := ⟨L, 3 * k, none⟩) (.inl rfl) _).set (p := ⟨L, 3 * k + 1, none⟩) (.inl rfl) _).set (p := ⟨L, 3 * k + 2, none⟩) (.inl rfl) _
  have hB := ((h.blk.set (3 * k) (.pointer (Slot.pa s))).set (3 * k + 1) (.pointer (Slot.pb s))).set (3 * k + 2) (.pointer (Slot.pr s))
  have hoff : ∀ x, s = some x → ¬ x.t.has L := fun x hx hq => by
    rcases (hs x hx).1.bt hq with q | q | q | q | q
    · exact q.ne h.blk.bt (by decide) rfl
    · exact q.ne h.blk.bt (by decide) rfl
    · exact q.ne h.blk.bt (by decide) rfl
    · exact q.ne h.blk.bt (by decide) rfl
    · exact q.ne h.blk.bt (by decide) rfl
  refine ⟨?_, h.at_, fun i y hy => ?_, fun i j y z hij hy hz q hq hzq => ?_⟩
  · have hc : cells9 (upd f k s) = (((cells9 f).set (3 * k) (.pointer (Slot.pa s))).set (3 * k + 1) (.pointer (Slot.pb s))).set (3 * k + 2) (.pointer (Slot.pr s)) := by
      match k, hk with
      | 0, _ => rfl
      | 1, _ => rfl
      | 2, _ => rfl
    rw [hc]
    exact hB
  · unfold upd at hy
    split at hy
    · obtain ⟨h1, h2⟩ := hs y hy
      exact ⟨h1.fr hF (fun q hq e => hoff y hy (e ▸ hq)), fun q hq => (h2 q hq).1⟩
    · obtain ⟨h1, h2⟩ := h.th i y hy
      exact ⟨h1.fr hF (fun q hq e => h.off hy (e ▸ hq)), h2⟩
  · unfold upd at hy hz
    split at hy
    · rename_i ei
      split at hz
      · rename_i ej; exact hij (ei.trans ej.symm)
      · rename_i nj; exact ((hs y hy).2 q hq).2 j z hz nj hzq
    · rename_i ni
      split at hz
      · exact ((hs z hz).2 q hzq).2 i y hy ni hq
      · exact h.apart i j y z hij hy hz q hq hzq
theorem Sys.cells (h : Sys n0 L w f) (k : Nat) (hk : k < 3) : w.cell? ⟨L, 3 * k, none⟩ = some (.pointer (Slot.pa (f k))) ∧ w.cell? ⟨L, 3 * k + 1, none⟩ = some (.pointer (Slot.pb (f k))) ∧ w.cell? ⟨L, 3 * k + 2, none⟩ = some (.pointer (Slot.pr (f k))) ∧ ∀ j, w.frozen? ⟨L, j, none⟩ = false := by
  refine ⟨?_, ?_, ?_, h.blk.free⟩
  all_goals
    rw [h.blk.cell]
    match k, hk with
    | 0, _ => rfl
    | 1, _ => rfl
    | 2, _ => rfl
/-- what is laid behind all that there is, is another's than what there is -/
theorem Sys.fresh (h : Sys n0 L w f) {i : Nat} {y : Slot} (hy : f i = some y) {q : Nat} (hq : w.heap.size ≤ q) : ¬ y.t.has q := fun hh => by
  have := (h.th i y hy).1.lt hh
  omega
end
/-- what was made is laid at number k -/
theorem Sys.laid {n0 L : Nat} {w w3 : World} {f : Nat → Option Slot} (h : Sys n0 L w f) (hn : n0 ≤ w.heap.size) (hF3 : Fr No w w3) {s : Option Slot} (hT3 : ∀ x, s = some x → Th w3 x.t x.n x.said x.spoke ∧ ∀ q, x.t.has q → w.heap.size ≤ q) (k : Nat) (hk : k < 3) :
    Sys n0 L (((w3.setCell ⟨L, 3 * k, none⟩ (.pointer (Slot.pa s))).setCell ⟨L, 3 * k + 1, none⟩ (.pointer (Slot.pb s))).setCell ⟨L, 3 * k + 2, none⟩ (.pointer (Slot.pr s))) (upd f k s) :=
  (h.fr hF3).put k hk s fun x hx => ⟨(hT3 x hx).1, fun q hq => ⟨Nat.le_trans hn ((hT3 x hx).2 q hq), fun i y hy _ => h.fresh hy ((hT3 x hx).2 q hq)⟩⟩
theorem fr_put3 {w0 w : World} {L : Nat} (hF : Fr No w0 w) (hL : w0.heap.size ≤ L) (i j k : Nat) (a b c : Value) : Fr No w0 (((w.setCell ⟨L, i, none⟩ a).setCell ⟨L, j, none⟩ b).setCell ⟨L, k, none⟩ c) :=
  ((hF.set (p := ⟨L, i, none⟩) (.inr hL) _).set (p := ⟨L, j, none⟩) (.inr hL) _).set (p := ⟨L, k, none⟩) (.inr hL) _
/-- what 'made' leaves -/
def MadeR (w : World) (e : Ending) (w' : World) : Prop := ∃ s : Option Slot, e = .returned (.tuple #[Slot.v s, .bool true]) ∧ Fr No w w' ∧ ∀ x, s = some x → Th w' x.t x.n x.said x.spoke ∧ ∀ k, x.t.has k → w.heap.size ≤ k
theorem made_any (n : Int) (w : World) : Calls Try.prog 14 #[.int .i64 n] w (MadeR w) := by
  by_cases h : n < 1 ∨ 7 < n
  · exact (made_no n h w).mono fun e w' hh => ⟨none, hh.1, hh.2, fun x hx => by cases hx⟩
  · obtain ⟨m, rfl⟩ : ∃ m : Nat, n = (m : Int) := ⟨n.toNat, by omega⟩
    refine (made_ m (by omega) (by omega) w).mono fun e w' hh => ?_
    obtain ⟨t, he, hT, hn, hF⟩ := hh
    exact ⟨some ⟨t, m, List.replicate m 0, List.replicate m false⟩, he, hF, fun x hx => by cases hx; exact ⟨hT, hn⟩⟩
end Go.Proofs.Ytobnehbcnlhchaa.Vt
