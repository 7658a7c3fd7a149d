/- A list in a block, from anywhere in it: read, cut at its head, grown. Conditions: none. -/
import Derived.Test.YtfpjdgkooikeoaaDoorStrB
import Derived.Test.YtfpjdgkooikeoaaDoorHelE
namespace Go.Proofs.YtfpjdgkooikeoaaDoor.Sl
open Go.RowKit Go.Proofs.YtfpjdgkooikeoaaDoor.Mem
set_option linter.unusedVariables false
set_option linter.unusedSimpArgs false
def RO (w : World) (e : Nat) (rb : Option Nat) (v : Value) (n : Nat) (xs : List Value) : Prop :=
  (rb = none ∧ n = 0 ∧ xs = [] ∧ ∃ A, v = .slice A 0 0) ∨ ∃ g off cap cur, rb = some g ∧ v = .slice (some ⟨g, off, none⟩) n cap ∧ Bk w g e cur ∧ off + cap = cur.length ∧ n ≤ cap ∧ cap ≤ maxLen ∧ (cur.drop off).take n = xs
section
variable {w w1 : World} {e n : Nat} {rb : Option Nat} {v : Value} {xs : List Value}
theorem RO.nil (w : World) (e : Nat) (A : Option Addr) : RO w e none (.slice A 0 0) 0 [] := .inl ⟨rfl, rfl, rfl, A, rfl⟩
theorem RO.len (h : RO w e rb v n xs) : xs.length = n := by
  rcases h with ⟨_, rfl, rfl, _⟩ | ⟨g, off, cap, cur, _, _, _, h1, h2, _, rfl⟩
  · rfl
  · rw [List.length_take, List.length_drop]; omega
theorem RO.val (h : RO w e rb v n xs) : ∃ A c, v = .slice A n c ∧ n ≤ c := by
  rcases h with ⟨_, rfl, _, A, rfl⟩ | ⟨g, off, cap, cur, _, rfl, _, h1, h2, _, _⟩
  · exact ⟨A, 0, rfl, Nat.le_refl _⟩
  · exact ⟨_, _, rfl, h2⟩
theorem RO.fr {S : Nat → Prop} (h : RO w e rb v n xs) (hf : Fr S w w1) (hn : ∀ k, rb = some k → ¬ S k) : RO w1 e rb v n xs := by
  rcases h with h | ⟨g, off, cap, cur, h1, h2, h3, h4⟩
  · exact .inl h
  · exact .inr ⟨g, off, cap, cur, h1, h2, h3.fr hf (hn g h1), h4⟩
theorem RO.bt (h : RO w e rb v n xs) {k : Nat} (hk : rb = some k) : BT w k e := by
  rcases h with ⟨h, _⟩ | ⟨g, off, cap, cur, h1, h2, h3, h4⟩
  · rw [h] at hk; cases hk
  · rw [h1] at hk; cases hk; exact h3.bt
theorem RO.at_ (h : RO w e rb v n xs) (hn : 0 < n) : ∃ g off cap, rb = some g ∧ v = .slice (some ⟨g, off, none⟩) n cap ∧ n ≤ cap ∧ ∀ j u, xs[j]? = some u → w.cell? ⟨g, off + j, none⟩ = some u := by
  rcases h with ⟨_, rfl, _⟩ | ⟨g, off, cap, cur, h1, h2, h3, h4, h5, h6, rfl⟩
  · omega
  · refine ⟨g, off, cap, h1, h2, h5, fun j u hj => ?_⟩
    rw [h3.cell]
    have hjn : j < n := by
      have := (List.getElem?_eq_some_iff.1 hj).1
      rw [List.length_take] at this
      omega
    rw [List.getElem?_take, if_pos hjn, List.getElem?_drop] at hj
    exact hj
theorem RO.tail {g off cap : Nat} {x : Value} (h : RO w e (some g) (.slice (some ⟨g, off, none⟩) (n + 1) cap) (n + 1) (x :: xs)) :
    (cap = 1 → RO w e none (.slice (some ⟨g, off, none⟩) 0 0) n xs) ∧ (cap ≠ 1 → RO w e (some g) (.slice (some ⟨g, off + 1, none⟩) n (cap - 1)) n xs) := by
  rcases h with ⟨h, _⟩ | ⟨g', off', cap', cur, h1, h2, h3, h4, h5, h6, h7⟩
  · cases h
  cases h1
  injection h2 with e1 _ e3
  injection e1 with e1
  injection e1 with _ e1
  subst e1 e3
  have hxs : xs = (cur.drop (off + 1)).take n := by
    have := congrArg List.tail h7
    rw [List.tail_cons] at this
    rw [← this, ← List.drop_one, List.drop_take, List.drop_drop]
    rfl
  refine ⟨fun hc => ?_, fun hc => .inr ⟨g, off + 1, cap - 1, cur, rfl, rfl, h3, by omega, by omega, by omega, hxs.symm⟩⟩
  obtain rfl : n = 0 := by omega
  rw [hxs, List.take_zero]
  exact RO.nil _ _ _
theorem RO.of_row (h : Row w e 1 rb v n xs) : RO w e rb v n xs := by
  rcases rb with _ | g
  · rcases h with ⟨_, h2, h3, h4⟩ | ⟨g, h, _⟩
    · exact .inl ⟨rfl, h2, h3, h4⟩
    · cases h
  · obtain ⟨c, rfl, hc⟩ := Row.form h
    obtain ⟨sp, hB, hsp, hle, hm⟩ := h.open_
    have hl := h.len
    refine .inr ⟨g, 0, c, xs ++ sp, rfl, rfl, hB, by rw [List.length_append]; omega, hle, hm, ?_⟩
    rw [List.drop_zero]
    exact List.take_left' (by omega)
theorem set_drop_take (cur : List Value) (off n : Nat) (u : Value) (h : off + n < cur.length) : ((cur.set (off + n) u).drop off).take (n + 1) = (cur.drop off).take n ++ [u] := by
  apply List.ext_getElem?
  intro j
  rw [List.getElem?_take, List.getElem?_drop, List.getElem?_set, List.getElem?_append, List.length_take, List.length_drop, List.getElem?_take, List.getElem?_drop]
  have hm : min n (cur.length - off) = n := by omega
  rw [hm]
  by_cases h1 : j < n
  · rw [if_pos (show j < n + 1 by omega), if_neg (show ¬ off + n = off + j by omega), if_pos h1, if_pos h1]
  · rw [if_neg h1]
    by_cases h2 : j = n
    · subst h2
      rw [if_pos (by omega), if_pos rfl, if_pos h]
      simp
    · rw [if_neg (show ¬ j < n + 1 by omega), List.getElem?_eq_none (by simp; omega)]
theorem run_appendO (P : Program) (t ty : TypeId) (z : Value) (bytes : Nat) (ht : P.underlying t = some (.slice e)) (hinfo : (P.info? e).map (fun i => (i.zero, i.size, i.bytes)) = some (some z, 1, bytes)) (hzs : z.cells.size = 1)
    (hr : RO w e rb v n xs) (ad : Addr) (u : Value) (hu : w.cell? ad = some u) (h1 : u.oneCell' = true) (h63 : n + 1 ≤ maxLen) (hbytes : (n + 1) * bytes ≤ 140737488355328) :
    ∃ v' w' rb', (Builtin.append_ #[t, t] ty #[v, .slice (some ad) 1 1]).run P w = .ok v' w' ∧ RO w' e rb' v' (n + 1) (xs ++ [u]) ∧ Fr (fun k => rb = some k) w w' ∧ (rb' = rb ∨ ∃ k, rb' = some k ∧ w.heap.size ≤ k) := by
  have hnews : ∀ (j : Nat) (y : Value), [u][j]? = some y → w.cell? (ad.add j) = some y := fun j y hj => by
    match j, hj with
    | 0, hj =>
      rw [show ad.add 0 = ad from rfl]
      simp only [List.getElem?_cons_zero, Option.some.injEq] at hj
      rw [← hj]; exact hu
    | j + 1, hj => simp at hj
  rcases hr with ⟨rfl, rfl, rfl, A, rfl⟩ | ⟨g, off, cap, cur, rfl, rfl, h3, h4, h5, h6, rfl⟩
  · obtain ⟨v', w', rb', hrun, h2, h3, h4⟩ := run_append_row (P := P) w t ty e z 1 bytes ht hinfo hzs (by omega) none _ 0 [] (Row.no w e 1 A) (some ad) 1 1 [u] rfl (fun _ => ⟨ad, rfl, hnews⟩) (fun y hy => by rw [List.mem_singleton.1 hy]; exact h1) (by omega) hbytes
    exact ⟨v', w', rb', hrun, RO.of_row h2, h3, h4⟩
  · obtain ⟨i, hi, hz⟩ := Option.map_eq_some_iff.1 hinfo
    simp only [Prod.mk.injEq] at hz
    obtain ⟨hz0, hz1, hz2⟩ := hz
    by_cases hroom : n + 1 ≤ cap
    · have hlt : off + n < cur.length := by omega
      have hrun := run_append_room_cells (P := P) w t ty e i ht hi g off n cap ad 1 1 [u] (by rw [hz1]; rfl) hnews (fun y hy => by rw [List.mem_singleton.1 hy]; exact h1) hroom
        (fun j hj => by
          have : j = 0 := by simpa using hj
          subst this
          rw [h3.cell, hz1, Nat.mul_one, Nat.add_zero, List.getElem?_eq_getElem hlt]; rfl)
        (fun j hj => h3.free _)
      refine ⟨_, _, some g, hrun, ?_, ?_, .inl rfl⟩
      · rw [hz1, Nat.mul_one]
        refine .inr ⟨g, off, cap, cur.set (off + n) u, rfl, rfl, h3.set _ _, by rw [List.length_set]; exact h4, hroom, h6, ?_⟩
        exact set_drop_take cur off n u hlt
      · rw [hz1, Nat.mul_one]
        exact (Fr.refl (fun k => some g = some k) w).set (p := ⟨g, off + n, none⟩) (.inl rfl) u
    · obtain ⟨v', w', hrun, h7, h8⟩ := run_append_arg_grows (P := P) w t ty e i z 1 bytes ht hi hz0 hz1 hz2 hzs (by omega) ⟨g, off, none⟩ n cap ((cur.drop off).take n) (by rw [List.length_take, List.length_drop]; omega)
        (fun j y hj => by
          have hjn : j < n := by
            have := (List.getElem?_eq_some_iff.1 hj).1
            rw [List.length_take] at this
            omega
          rw [List.getElem?_take, if_pos hjn, List.getElem?_drop] at hj
          rw [Addr.add_lit, h3.cell]
          exact hj) ad 1 1 [u] rfl hnews (by omega) h63 hbytes
      have hro := RO.of_row (own_any h7)
      refine ⟨v', w', v'.ownBlock, hrun, hro, Fr.grown h8 (fun k hk => by cases hk), ?_⟩
      rcases h7.2 with ⟨_, h0⟩ | ⟨g', _, _, rfl, hg, _⟩
      · omega
      · exact .inr ⟨g', rfl, hg⟩
/-- at a step of a region that draws its order -/
theorem st_appendO {P : Program} {ops : Array Oper} {o : Oper} {a : Act} {K : Act → World → Prop} {Q : Exit → Act → World → Prop} {E : Prop} (hgd : o.guard = none) (s x : Operand) (t : TypeId)
    (ho : o.op = .call { callee := .builtin .append, args := #[s, x], argTypes := #[t, t] })
    (e : TypeId) (z : Value) (bytes : Nat) (ht : P.underlying t = some (.slice e)) (hinfo : (P.info? e).map (fun i => (i.zero, i.size, i.bytes)) = some (some z, 1, bytes)) (hzs : z.cells.size = 1)
    (rb : Option Nat) (v : Value) (n : Nat) (xs : List Value) (hs : a.eval s = v) (hr : RO w e rb v n xs)
    (ad : Addr) (u : Value) (hx : a.eval x = .slice (some ad) 1 1) (hu : w.cell? ad = some u) (h1 : u.oneCell' = true)
    (h63 : n + 1 ≤ maxLen) (hbytes : (n + 1) * bytes ≤ 140737488355328)
    (h : ∀ A' c' w' rb', RO w' e rb' (.slice A' (n + 1) c') (n + 1) (xs ++ [u]) → Fr (fun k => rb = some k) w w' → (rb' = rb ∨ ∃ k, rb' = some k ∧ w.heap.size ≤ k) → K (a.put o.dst (.slice A' (n + 1) c')) w') :
    if Region.wanted o (yielded ops a.tmps) = true then Oper.wp P o a w K Q else E := by
  have hw : Region.wanted o (yielded ops a.tmps) = true := by simp [Region.wanted, hgd]
  rw [if_pos hw]
  obtain ⟨v', w', rb', hrun, h2, h3, h4⟩ := run_appendO P t o.type z bytes ht hinfo hzs hr ad u hu h1 h63 hbytes
  unfold Oper.wp execOp
  simp only [ho, resolve, invoke, builtin, Sem.run_bind, Sem.run_pure, Result.andThen_ok, List.map_toArray, List.map_cons, List.map_nil, hs, hx, hrun]
  obtain ⟨A', c', rfl, _⟩ := h2.val
  exact h A' c' w' rb' h2 h3 h4
end
end Go.Proofs.YtfpjdgkooikeoaaDoor.Sl
