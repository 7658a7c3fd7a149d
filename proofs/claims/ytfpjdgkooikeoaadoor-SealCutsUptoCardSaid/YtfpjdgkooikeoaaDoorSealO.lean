/- append where the sum is a little above 2^47 bytes: a list of bytes grows. Conditions: none. -/
import Derived.Test.YtfpjdgkooikeoaaDoorSealM
import Derived.Test.YtfpjdgkooikeoaaDoorSealJ
namespace Go.Proofs.YtfpjdgkooikeoaaDoor.Sl
open Go.RowKit Go.Proofs.YtfpjdgkooikeoaaDoor.Mem
set_option linter.unusedVariables false
set_option linter.unusedSimpArgs false
theorem nextcap_le {need old : Nat} (h : old < need) : Builtin.nextslicecap need old ≤ need + need / 4 + 1024 := by
  unfold Builtin.nextslicecap
  split
  · omega
  · split
    · omega
    · rw [growBy_four]
      repeat' split
      all_goals omega
theorem run_append_big (w : World) (rb : Option Nat) (v : Value) (n : Nat) (l : List UInt8) (hr : Row w 5 1 rb v n (bv l)) (hn : 0 < n) (A : Option Addr) (m c : Nat) (k : List UInt8) (hl : k.length = m) (hk : BR Any w A k) (hb : n + m ≤ 200000000000000) (hb0 : n ≤ 140737488355328) :
    ∃ v' w' rb', (Builtin.append_ #[22, 22] 22 #[v, .slice A m c]).run Tryd.prog w = .ok v' w' ∧ Row w' 5 1 rb' v' (n + m) (bv (l ++ k)) ∧ Fr (fun q => rb = some q) w w' ∧ (rb' = rb ∨ ∃ q, rb' = some q ∧ w.heap.size ≤ q) := by
  rw [bv_append]
  rcases Nat.eq_zero_or_pos m with rfl | hm
  · obtain rfl : k = [] := List.eq_nil_of_length_eq_zero hl
    exact run_append_row w 22 22 5 (.int .u8 0) 1 1 Tryd.underlying22 info8 rfl (by decide) rb v n (bv l) hr A 0 c (bv []) rfl (fun h => absurd h (by omega)) (bv_one []) (by unfold maxLen; omega) (by omega)
  · obtain ⟨ad, rfl, hcell⟩ := hk.cells (by omega)
    obtain ⟨g, cap, rfl, rfl, hle, hcl, _⟩ := hr.at_ hn
    obtain ⟨sp, hB, hsp, _, hcm⟩ := hr.open_
    have hll : (bv l).length = n := by have := hr.len; omega
    have hkl : (bv k).length = m := by rw [bv_len, hl]
    by_cases hroom : n + m ≤ cap
    · obtain ⟨w', h1, h2, h3⟩ := run_append_in (P := Tryd.prog) w 22 22 5 (.int .u8 0) 1 1 Tryd.underlying22 info8 g n cap (bv l ++ sp) hB (some ad) m c (bv k) (by omega) (fun _ => ⟨ad, rfl, hcell⟩) (bv_one k) hroom (by rw [List.length_append]; omega)
      refine ⟨_, w', some g, h1, ?_, h3.mono (fun q _ e => by rw [e]), .inl rfl⟩
      refine Row.shut (sp := (sp.drop m)) ?_ (by rw [List.length_append]; omega) (by rw [List.length_drop]; omega) hroom hcm
      rw [Nat.mul_one, hkl] at h2
      rw [List.take_left' hll, ← List.drop_drop, List.drop_left' hll] at h2
      exact h2
    · obtain ⟨i, hi, hz⟩ := Option.map_eq_some_iff.1 info8
      simp only [Prod.mk.injEq] at hz
      obtain ⟨hz0, hz1, hz2⟩ := hz
      have hr := run_append_grow (P := Tryd.prog) w 22 22 5 i (.int .u8 0) Tryd.underlying22 hi hz0 ⟨g, 0, none⟩ n cap (bv l) (by rw [hz1]; omega) (fun j u hj => by rw [add0]; exact hcl j u hj) ad m c (bv k) (by rw [hz1]; omega) hcell (by omega) (by omega) (by rw [hz2]; have := nextcap_le (need := n + m) (old := cap) (by omega); omega)
      refine ⟨_, _, some w.heap.size, hr, ?_, (Fr.refl _ _).drew.alloc _, .inr ⟨_, rfl, Nat.le_refl _⟩⟩
      have hge := grownCap_ge w (n + m) cap 5
      have hmx : grownCap w (n + m) cap 5 ≤ maxLen := grownCap_le_maxLen w (n + m) cap 5 (by unfold maxLen; omega)
      refine Row.shut (sp := (Builtin.zeroCells (Value.int .u8 0).cells (grownCap w (n + m) cap 5 - (n + m))).toList) ?_ (by rw [List.length_append]; omega) (by rw [Array.length_toList, size_zeroCells]; simp [Value.cells]) hge hmx
      have := heap_alloc_new w.drew (.cells ((bv l).toArray ++ (bv k).toArray ++ Builtin.zeroCells (Value.int .u8 0).cells (grownCap w (n + m) cap 5 - (n + m))) 5)
      show (w.drew.alloc _).heap[w.heap.size]? = _
      rw [show w.heap.size = w.drew.heap.size from rfl, this]
      congr 2
      apply Array.ext'
      simp
theorem wl_append_big {w : World} {ops : Array Oper} {rest : List Oper} {o : Oper} {a : Act} {Q : Exit → Act → World → Prop} (hgd : o.guard = none) (s x : Operand) (ho : o.op = .call { callee := .builtin .append, args := #[s, x], argTypes := #[22, 22] }) (hty : o.type = 22)
    (rb : Option Nat) (v : Value) (n : Nat) (l : List UInt8) (hs : a.eval s = v) (hr : Row w 5 1 rb v n (bv l)) (hn : 0 < n) (A : Option Addr) (m c : Nat) (k : List UInt8) (hx : a.eval x = .slice A m c) (hl : k.length = m) (hk : BR Any w A k) (hb : n + m ≤ 200000000000000) (hb0 : n ≤ 140737488355328)
    (h : ∀ A' c' w' rb', Row w' 5 1 rb' (.slice A' (n + m) c') (n + m) (bv (l ++ k)) → Fr (fun q => rb = some q) w w' → (rb' = rb ∨ ∃ q, rb' = some q ∧ w.heap.size ≤ q) → wpList Tryd.prog ops Q rest (a.put o.dst (.slice A' (n + m) c')) w') : wpList Tryd.prog ops Q (o :: rest) a w := by
  refine wpList_plain hgd fun K hK => ?_
  obtain ⟨v', w', rb', hrun, h1, h2, h3⟩ := run_append_big w rb v n l hr hn A m c k hl hk hb hb0
  obtain ⟨A', c', rfl, _⟩ := h1.val
  unfold Oper.wp execOp
  simp only [ho, hty, resolve, invoke, builtin, Sem.run_bind, Sem.run_pure, Result.andThen_ok, List.map_toArray, List.map_cons, List.map_nil, hs, hx, hrun]
  exact hK _ _ (h A' c' w' rb' h1 h2 h3)
end Go.Proofs.YtfpjdgkooikeoaaDoor.Sl
