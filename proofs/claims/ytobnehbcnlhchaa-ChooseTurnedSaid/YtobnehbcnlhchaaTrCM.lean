/- Rows of witnesses of a call's own: append, and how they read. Conditions: none. -/
import Derived.Test.YtobnehbcnlhchaaTrCP
import Derived.Laws.AppendOwn
namespace Go.Proofs.Ytobnehbcnlhchaa.Ch
open Go.RowKit Go.Proofs.YtobnehbcnlhchaaW.PrintWords Go.Proofs.Ytobnehbcnlhchaa.PChooseTurned
set_option linter.unusedVariables false

/-- a row of witnesses of the call's own -/
def Own (w : World) (base : Nat) (v : Value) (l : List S66) : Prop := w.ownsRow base 66 3 v l.length (cells66 l)
theorem cells66_length : ∀ l : List S66, (cells66 l).length = l.length * 3
  | [] => rfl
  | x :: r => by
    show (([.int .i64 x.f0, .int .i64 x.f1, .bool x.f2] : List Value) ++ cells66 r).length = _
    rw [List.length_append, cells66_length r]; simp; omega
theorem cells66_append (l l' : List S66) : cells66 (l ++ l') = cells66 l ++ cells66 l' := by simp [cells66]
theorem cells66_one : ∀ (l : List S66), ∀ u ∈ cells66 l, u.oneCell' = true := by
  intro l u hu
  obtain ⟨p, _, hp⟩ := List.mem_flatMap.1 hu
  simp at hp
  rcases hp with rfl | rfl | rfl <;> rfl
/-- the cells of a list that is read -/
theorem C_cells {w : World} {ad : Addr} {n : Nat} {l : List S66} (h : Kd.C k66 w (some ad) n l) : ∀ j u, (cells66 l)[j]? = some u → w.cell? (ad.add j) = some u := by
  intro j u hj
  have hl : j < l.length * 3 := by rw [← cells66_length]; exact (List.getElem?_eq_some_iff.1 hj).1
  obtain ⟨ad', e, hc⟩ := h.2.2 (by have := h.1; omega)
  obtain rfl := Option.some.inj e
  have hq : j / 3 < l.length := by omega
  obtain ⟨c, hcl, hR, hcell⟩ := hc (j / 3) _ (List.getElem?_eq_getElem hq)
  obtain rfl := k66_open hR
  have h3 : j % 3 < 3 := Nat.mod_lt _ (by omega)
  obtain ⟨v, hv⟩ : ∃ v, ([.int .i64 (l[j / 3]).f0, .int .i64 (l[j / 3]).f1, .bool (l[j / 3]).f2] : List Value)[j % 3]? = some v := by
    rw [List.getElem?_eq_getElem (by simpa using h3)]; exact ⟨_, rfl⟩
  have h1 := cells66_at l (j / 3) _ (List.getElem?_eq_getElem hq) (j % 3) v hv
  have e2 : j / 3 * 3 + j % 3 = j := by omega
  rw [e2, hj] at h1
  have h2 := hcell (j % 3) v hv
  rw [show j / 3 * k66.sz + j % 3 = j from e2] at h2
  rw [h2]; exact h1.symm
theorem Own.reads {w : World} {base : Nat} {v : Value} {l : List S66} (h : Own w base v l) (hm : l.length ≤ 9223372036854775807) : ∃ A c, v = .slice A l.length c ∧ Kd.C k66 w A l.length l ∧ l.length ≤ c := by
  rcases h.2 with ⟨rfl, h0⟩ | ⟨g, cap, cur, rfl, hg, hh, hnc, hcm, hsz, htk⟩
  · exact ⟨none, 0, by rw [h0], ⟨rfl, by omega, fun hn => absurd hn (by omega)⟩, by omega⟩
  · refine ⟨some ⟨g, 0, none⟩, cap, rfl, ⟨rfl, hm, fun _ => ⟨_, rfl, fun j p hj => ⟨_, rfl, k66_mk w p, fun i u hu => ?_⟩⟩⟩, hnc⟩
    rw [add_plain, Blk.cell hh]
    have h1 := cells66_at l j p hj i u hu
    rw [← htk, List.getElem?_take] at h1
    show cur[j * 3 + i]? = some u
    split at h1
    · simpa using h1
    · cases h1
theorem Own.nil (w : World) (base : Nat) : Own w base (.slice none 0 0) [] := ⟨by simp [cells66], .inl ⟨rfl, rfl⟩⟩

theorem info66' : ∃ i, Try.prog.info? 66 = some i ∧ i.zero = some (.agg #[.int .i64 0, .int .i64 0, .bool false]) ∧ i.size = 3 ∧ i.bytes = 24 := info_parts info66

/-- append(v, ys...), v of the call's own, ys a list that is read -/
theorem append66 {w : World} {ops : Array Oper} {rest : List Oper} {o : Oper} {a : Act} {Q : Exit → Act → World → Prop} (hgd : o.guard = none) (s x : Operand)
    (ho : o.op = .call { callee := .builtin .append, args := #[s, x], argTypes := #[57, 57] }) (base : Nat)
    (v : Value) (l : List S66) (hs : a.eval s = v) (hown : Own w base v l) (ad : Addr) (m c : Nat) (ys : List S66) (hx : a.eval x = .slice (some ad) m c) (hl : ys.length = m)
    (hnews : ∀ j u, (cells66 ys)[j]? = some u → w.cell? (ad.add j) = some u) (hbytes : (l.length + ys.length) * 24 ≤ 140737488355328) (hbase : base ≤ w.heap.size)
    (h : ∀ v' w', Own w' base v' (l ++ ys) → w.grownBy w' v.ownBlock → wpList Try.prog ops Q rest (a.put o.dst v') w') : wpList Try.prog ops Q (o :: rest) a w := by
  obtain ⟨i, hi, hz, h1, h2⟩ := info66'
  subst hl
  refine wpList_append_own w hgd s x 57 ho base 66 i _ 3 24 Try.underlying57 hi hz h1 h2 rfl (by omega) v l.length (cells66 l) hs hown ad ys.length c (cells66 ys) hx (cells66_length ys) hnews (cells66_one ys) (by unfold maxLen; omega) hbytes hbase ?_
  intro v' w' ho' hg _
  exact h v' w' (by unfold Own; rw [List.length_append, cells66_append]; exact ho') hg

/-- 'among' -/
def amongS (i n : Int) : Int := if n < 1 then 0 else i % n
theorem among_f (i n : Int) (hn : n ≤ 1000) (hi : (Lit.int .i64 i).wf = true) : PChooseTurned.flotillalaw12_among.f i n = some (amongS i n) := by
  have hx : -9223372036854775808 ≤ i ∧ i ≤ 9223372036854775807 := by simpa [Lit.wf, IntKind.min, IntKind.max, IntKind.signed, IntKind.bits] using hi
  unfold PChooseTurned.flotillalaw12_among.f amongS
  by_cases h1 : n < 1
  · rw [if_pos h1, if_pos h1]
  · rw [if_neg h1, if_neg h1, if_neg (by omega)]
    have hdec := Int.mul_tdiv_add_tmod i n
    have hlo : -n < Int.tmod i n := Int.lt_tmod_of_pos i (by omega)
    have hhi : Int.tmod i n < n := Int.tmod_lt_of_pos i (by omega)
    have he : i % n = Int.tmod i n % n := by
      conv => lhs; rw [← hdec]
      rw [Int.add_comm, Int.add_mul_emod_self_left]
    by_cases h2 : Int.tmod i n < 0
    · rw [if_pos h2, he, show wrap64 (Int.tmod i n + n) = Int.tmod i n + n from by unfold wrap64; omega]
      rw [← Int.add_emod_right, Int.emod_eq_of_lt (by omega) (by omega)]
    · rw [if_neg h2, he, Int.emod_eq_of_lt (by omega) (by omega)]
theorem among12 (i n : Int) (w : World) (hn : n ≤ 1000) (hi : (Lit.int .i64 i).wf = true) : Calls Try.prog 24 #[.int .i64 i, .int .i64 n] w fun e w' => e = .returned (.int .i64 (amongS i n)) ∧ Below w.heap.size w w' := by
  refine (PChooseTurned.flotillalaw12_among.calls i n _ w (among_f i n hn hi)).mono ?_
  rintro e w' ⟨rfl, hd⟩
  exact ⟨rfl, hd.below⟩
end Go.Proofs.Ytobnehbcnlhchaa.Ch
