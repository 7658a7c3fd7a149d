/- Rows of ballots: append, copy, and how they read. Conditions: none. -/
import Derived.Test.YtobnehbcnlhchaaTrBX
import Derived.Laws.AppendOwn
import Derived.Laws.AppendOwnNone
import Derived.Laws.CopyOwn
import Derived.Deep.Slices
namespace Go.Proofs.Ytobnehbcnlhchaa.Be
open Go.RowKit Go.Proofs.YtobnehbcnlhchaaW.PrintWords Go.Proofs.Ytobnehbcnlhchaa.PChooseTurned
set_option linter.unusedVariables false

/-- a block that holds the cells of a list -/
def cells62 (l : List S62) : List Value := l.flatMap fun p => [.int .i64 p.f0, .int .i64 p.f1, .int .i64 p.f2, .int .i64 p.f3]
theorem cells62_at : ∀ (l : List S62) (j : Nat) (p : S62), l[j]? = some p → ∀ i u, ([.int .i64 p.f0, .int .i64 p.f1, .int .i64 p.f2, .int .i64 p.f3] : List Value)[i]? = some u → (cells62 l)[j * 4 + i]? = some u
  | [], j, p, h, _, _, _ => by simp at h
  | x :: r, 0, p, h, i, u, hu => by
    have hi : i < 4 := by simpa using (List.getElem?_eq_some_iff.1 hu).1
    obtain rfl : x = p := by simpa using h
    show (([.int .i64 x.f0, .int .i64 x.f1, .int .i64 x.f2, .int .i64 x.f3] : List Value) ++ cells62 r)[0 * 4 + i]? = some u
    rw [List.getElem?_append_left (by simp; omega), Nat.zero_mul, Nat.zero_add]
    exact hu
  | x :: r, j + 1, p, h, i, u, hu => by
    show (([.int .i64 x.f0, .int .i64 x.f1, .int .i64 x.f2, .int .i64 x.f3] : List Value) ++ cells62 r)[(j + 1) * 4 + i]? = some u
    rw [List.getElem?_append_right (by simp; omega)]
    have := cells62_at r j p (by simpa using h) i u hu
    rw [← this]
    congr 1
    simp
    omega
theorem C_block {w : World} {b t : Nat} {fr : Nat × Nat} (l : List S62) (hl : l.length ≤ 1000) (h : w.heap[b]? = some (.cells (cells62 l).toArray t fr)) : Kd.C k62 w (some ⟨b, 0, none⟩) l.length l := by
  refine ⟨rfl, by omega, fun _ => ⟨_, rfl, fun j p hj => ⟨_, rfl, k62_mk w p, fun i u hu => ?_⟩⟩⟩
  show w.cell? _ = _
  rw [add_plain, Blk.cell h]
  show (cells62 l).toArray[j * 4 + i]? = some u
  simpa using cells62_at l j p hj i u hu
/-- a row of witnesses of the call's own -/
def Own (w : World) (base : Nat) (v : Value) (l : List S62) : Prop := w.ownsRow base 62 4 v l.length (cells62 l)
theorem cells62_length : ∀ l : List S62, (cells62 l).length = l.length * 4
  | [] => rfl
  | x :: r => by
    show (([.int .i64 x.f0, .int .i64 x.f1, .int .i64 x.f2, .int .i64 x.f3] : List Value) ++ cells62 r).length = _
    rw [List.length_append, cells62_length r]; simp; omega
theorem cells62_append (l l' : List S62) : cells62 (l ++ l') = cells62 l ++ cells62 l' := by simp [cells62]
theorem cells62_one : ∀ (l : List S62), ∀ u ∈ cells62 l, u.oneCell' = true := by
  intro l u hu
  obtain ⟨p, _, hp⟩ := List.mem_flatMap.1 hu
  simp at hp
  rcases hp with rfl | rfl | rfl | rfl <;> rfl
/-- the cells of a list that is read -/
theorem C_cells {w : World} {ad : Addr} {n : Nat} {l : List S62} (h : Kd.C k62 w (some ad) n l) : ∀ j u, (cells62 l)[j]? = some u → w.cell? (ad.add j) = some u := by
  intro j u hj
  have hl : j < l.length * 4 := by rw [← cells62_length]; exact (List.getElem?_eq_some_iff.1 hj).1
  obtain ⟨ad', e, hc⟩ := h.2.2 (by have := h.1; omega)
  obtain rfl := Option.some.inj e
  have hq : j / 4 < l.length := by omega
  obtain ⟨c, hcl, hR, hcell⟩ := hc (j / 4) _ (List.getElem?_eq_getElem hq)
  obtain rfl := k62_open hR
  have h3 : j % 4 < 4 := Nat.mod_lt _ (by omega)
  obtain ⟨v, hv⟩ : ∃ v, ([.int .i64 (l[j / 4]).f0, .int .i64 (l[j / 4]).f1, .int .i64 (l[j / 4]).f2, .int .i64 (l[j / 4]).f3] : List Value)[j % 4]? = some v := by
    rw [List.getElem?_eq_getElem (by simpa using h3)]; exact ⟨_, rfl⟩
  have h1 := cells62_at l (j / 4) _ (List.getElem?_eq_getElem hq) (j % 4) v hv
  have e2 : j / 4 * 4 + j % 4 = j := by omega
  rw [e2, hj] at h1
  have h2 := hcell (j % 4) v hv
  rw [show j / 4 * k62.sz + j % 4 = j from e2] at h2
  rw [h2]; exact h1.symm
theorem Own.reads {w : World} {base : Nat} {v : Value} {l : List S62} (h : Own w base v l) (hm : l.length ≤ 9223372036854775807) : ∃ A c, v = .slice A l.length c ∧ Kd.C k62 w A l.length l ∧ l.length ≤ c := by
  rcases h.2 with ⟨rfl, h0⟩ | ⟨g, cap, cur, rfl, hg, hh, hnc, hcm, hsz, htk⟩
  · exact ⟨none, 0, by rw [h0], ⟨rfl, by omega, fun hn => absurd hn (by omega)⟩, by omega⟩
  · refine ⟨some ⟨g, 0, none⟩, cap, rfl, ⟨rfl, hm, fun _ => ⟨_, rfl, fun j p hj => ⟨_, rfl, k62_mk w p, fun i u hu => ?_⟩⟩⟩, hnc⟩
    rw [add_plain, Blk.cell hh]
    have h1 := cells62_at l j p hj i u hu
    rw [← htk, List.getElem?_take] at h1
    show cur[j * 4 + i]? = some u
    split at h1
    · simpa using h1
    · cases h1
theorem Own.nil (w : World) (base : Nat) : Own w base (.slice none 0 0) [] := ⟨by simp [cells62], .inl ⟨rfl, rfl⟩⟩

theorem info62' : ∃ i, Try.prog.info? 62 = some i ∧ i.zero = some (.agg #[.int .i64 0, .int .i64 0, .int .i64 0, .int .i64 0]) ∧ i.size = 4 ∧ i.bytes = 32 := info_parts info62

/-- append(v, ys...), v of the call's own, ys a list that is read -/
theorem append62 {w : World} {ops : Array Oper} {rest : List Oper} {o : Oper} {a : Act} {Q : Exit → Act → World → Prop} (hgd : o.guard = none) (s x : Operand)
    (ho : o.op = .call { callee := .builtin .append, args := #[s, x], argTypes := #[56, 56] }) (base : Nat)
    (v : Value) (l : List S62) (hs : a.eval s = v) (hown : Own w base v l) (ad : Addr) (m c : Nat) (ys : List S62) (hx : a.eval x = .slice (some ad) m c) (hl : ys.length = m)
    (hnews : ∀ j u, (cells62 ys)[j]? = some u → w.cell? (ad.add j) = some u) (hbytes : (l.length + ys.length) * 32 ≤ 140737488355328) (hbase : base ≤ w.heap.size)
    (h : ∀ v' w', Own w' base v' (l ++ ys) → w.grownBy w' v.ownBlock → wpList Try.prog ops Q rest (a.put o.dst v') w') : wpList Try.prog ops Q (o :: rest) a w := by
  obtain ⟨i, hi, hz, h1, h2⟩ := info62'
  subst hl
  refine wpList_append_own w hgd s x 56 ho base 62 i _ 4 32 Try.underlying56 hi hz h1 h2 rfl (by omega) v l.length (cells62 l) hs hown ad ys.length c (cells62 ys) hx (cells62_length ys) hnews (cells62_one ys) (by unfold maxLen; omega) hbytes hbase ?_
  intro v' w' ho' hg _
  exact h v' w' (by unfold Own; rw [List.length_append, cells62_append]; exact ho') hg

theorem Own.alloc {w : World} {base : Nat} {v : Value} {l : List S62} (h : Own w base v l) (o : Obj) : Own (w.alloc o) base v l := World.ownsRow.alloc h o
theorem Own.base {w : World} {base : Nat} {v : Value} {l : List S62} (h : Own w base v l) (k : Nat) (hk : v.ownBlock = some k) : base ≤ k := own_base h k hk
theorem cells_lit (w : World) (p : S62) : ∀ j u, (cells62 [p])[j]? = some u → (w.alloc (.cells #[.int .i64 p.f0, .int .i64 p.f1, .int .i64 p.f2, .int .i64 p.f3] 62 (0, 0))).cell? ((⟨w.heap.size, 0, none⟩ : Addr).add j) = some u := by
  intro j u hj
  rw [add_plain, Blk.cell (Blk.new _ _)]
  simpa [cells62] using hj
theorem C_prefix {w : World} {A : Option Addr} {l r : List S62} {n : Nat} (h : Kd.C k62 w A n (l ++ r)) : Kd.C k62 w A l.length l := by
  have h1 := h.1
  rw [List.length_append] at h1
  refine ⟨rfl, by have := h.2.1; omega, fun hp => ?_⟩
  obtain ⟨ad, e, hc⟩ := h.2.2 (by omega)
  refine ⟨ad, e, fun j p hj => hc j p ?_⟩
  rw [List.getElem?_append_left (List.getElem?_eq_some_iff.1 hj).1]; exact hj

/-- the value of a row of one's own that is not nil -/
theorem Own.notNil {w : World} {base : Nat} {v : Value} {l : List S62} (h : Own w base v l) (hl : 0 < l.length) : ∃ g cap, v = .slice (some ⟨g, 0, none⟩) l.length cap ∧ base ≤ g ∧ l.length ≤ cap ∧ cap ≤ 9223372036854775807 := by
  rcases h.2 with ⟨_, h0⟩ | ⟨g, cap, cur, rfl, hg, hh, hnc, hcm, _⟩
  · omega
  · exact ⟨g, cap, rfl, hg, hnc, by unfold maxLen at hcm; omega⟩
/-- the cells of a list of one's own and of a list that came in -/
theorem cells_of {w : World} {A : Option Addr} {n : Nat} {l : List S62} (h : Kd.C k62 w A n l) (hl : 0 < l.length) : ∃ ad, A = some ad ∧ ∀ j u, (cells62 l)[j]? = some u → w.cell? (ad.add j) = some u := by
  obtain ⟨ad, e, _⟩ := h.2.2 (by have := h.1; omega)
  subst e
  exact ⟨ad, rfl, C_cells h⟩

/-- append(v, ys...), v of the call's own, ys a list that is read, nil let in -/
theorem append62o {w : World} {ops : Array Oper} {rest : List Oper} {o : Oper} {a : Act} {Q : Exit → Act → World → Prop} (hgd : o.guard = none) (s x : Operand)
    (ho : o.op = .call { callee := .builtin .append, args := #[s, x], argTypes := #[56, 56] }) (base : Nat)
    (v : Value) (l : List S62) (hs : a.eval s = v) (hown : Own w base v l) (A : Option Addr) (m c : Nat) (ys : List S62) (hx : a.eval x = .slice A m c) (hnn : A = none → c = 0) (hC : Kd.C k62 w A m ys)
    (hbytes : (l.length + ys.length) * 32 ≤ 140737488355328) (hbase : base ≤ w.heap.size)
    (h : ∀ v' w', Own w' base v' (l ++ ys) → w.grownBy w' v.ownBlock → wpList Try.prog ops Q rest (a.put o.dst v') w') : wpList Try.prog ops Q (o :: rest) a w := by
  cases A with
  | some ad => exact append62 hgd s x ho base v l hs hown ad m c ys hx hC.1 (C_cells hC) hbytes hbase h
  | none =>
    have hm : m = 0 := by
      by_cases h0 : 0 < m
      · obtain ⟨ad, e, _⟩ := hC.2.2 h0; cases e
      · omega
    obtain rfl : ys = [] := List.eq_nil_of_length_eq_zero (by rw [hC.1, hm])
    rw [hnn rfl, hm] at hx
    obtain ⟨i, hi, hz, h1, h2⟩ := info62'
    refine wpList_append_own_none hgd s x 56 ho base 62 i 4 Try.underlying56 hi v l.length (cells62 l) hs hown hx (h v w (by simpa using hown) (World.grownBy.refl _ _))

theorem C_suffix {w : World} {ad : Addr} {n : Nat} {l r : List S62} (h : Kd.C k62 w (some ad) n (l ++ r)) : Kd.C k62 w (some (ad.add (l.length * 4))) r.length r := by
  have h1 := h.1
  rw [List.length_append] at h1
  refine ⟨rfl, by have := h.2.1; omega, fun hp => ?_⟩
  obtain ⟨ad', e, hc⟩ := h.2.2 (by omega)
  obtain rfl := Option.some.inj e
  refine ⟨_, rfl, fun j p hj => ?_⟩
  obtain ⟨c, h1, h2, h3⟩ := hc (l.length + j) p (by rw [List.getElem?_append_right (by omega), Nat.add_sub_cancel_left]; exact hj)
  refine ⟨c, h1, h2, fun i u hu => ?_⟩
  rw [Deep.add_add]
  have e : l.length * 4 + (j * k62.sz + i) = (l.length + j) * k62.sz + i := by show l.length * 4 + (j * 4 + i) = (l.length + j) * 4 + i; omega
  rw [e]; exact h3 i u hu
theorem run_copy_cells {P : Program} (w : World) (dT sT ty elem : TypeId) (g o dLen dCap : Nat) (a : Addr) (sLen sCap : Nat) (cur : Array Value) (t : TypeId) (cs : List Value) (size m : Nat)
    (hu : P.underlying dT = some (.slice elem)) (hs : (P.info? elem).map (·.size) = some size)
    (hg : w.heap[g]? = some (.cells cur t (0, 0))) (hm : m = Nat.min sLen dLen) (hn : cs.length = m * size)
    (hsrc : ∀ j v, cs[j]? = some v → w.cell? (a.add j) = some v) (hfit : o + cs.length ≤ cur.size) (h1 : ∀ v ∈ cs, v.oneCell' = true) :
    (Builtin.copy_ #[dT, sT] ty #[.slice (some ⟨g, o, none⟩) dLen dCap, .slice (some a) sLen sCap]).run P w =
      .ok (goInt m) (w.setRow g (cur.toList.take o ++ cs ++ cur.toList.drop (o + cs.length)).toArray) := by
  have hl := run_loadCells_list (P := P) w a cs hsrc
  have hst := run_storeCells_at P g o t cs 0 cur w hg (by simpa using hfit) h1
  rw [hn] at hl
  cases hq : P.info? elem with
  | none => simp [hq] at hs
  | some i =>
    have hi : i.size = size := by simpa [hq] using hs
    simp [Builtin.copy_, run_underlying hu, Builtin.lenOf, Builtin.firstCells, sizeOf, typeInfo, hq, hi, ← hm, hl, hst]

theorem wpList_copy_cells {P : Program} {w : World} {ops : Array Oper} {rest : List Oper} {o : Oper} {a : Act} {Q : Exit → Act → World → Prop} (hgd : o.guard = none) (d s : Operand) (dT sT : TypeId)
    (ho : o.op = .call { callee := .builtin .copy, args := #[d, s], argTypes := #[dT, sT] }) (elem : TypeId) (size : Nat) (hu : P.underlying dT = some (.slice elem)) (hsz : (P.info? elem).map (·.size) = some size)
    (g off dLen dCap : Nat) (ad : Addr) (sLen sCap : Nat) (hd : a.eval d = .slice (some ⟨g, off, none⟩) dLen dCap) (hs : a.eval s = .slice (some ad) sLen sCap)
    (cur : Array Value) (t : TypeId) (hg : w.heap[g]? = some (.cells cur t (0, 0))) (cs : List Value) (m : Nat) (hm : m = Nat.min sLen dLen) (hn : cs.length = m * size)
    (hsrc : ∀ j v, cs[j]? = some v → w.cell? (ad.add j) = some v) (hfit : off + cs.length ≤ cur.size) (h1 : ∀ v ∈ cs, v.oneCell' = true)
    (h : wpList P ops Q rest (a.put o.dst (goInt m)) (w.setRow g (cur.toList.take off ++ cs ++ cur.toList.drop (off + cs.length)).toArray)) : wpList P ops Q (o :: rest) a w := by
  refine wpList_plain hgd fun K hK => ?_
  have hrun := run_copy_cells (P := P) w dT sT o.type elem g off dLen dCap ad sLen sCap cur t cs size m hu hsz hg hm hn hsrc hfit h1
  unfold Oper.wp
  simp [execOp, ho, resolve, invoke, builtin, hd, hs, hrun, Result.andThen]
  have h' := hK _ _ h
  rw [List.append_assoc] at h'
  exact h'
theorem run_copy_zero {P : Program} (w : World) (dT sT ty elem : TypeId) (d a : Option Addr) (dLen dCap sLen sCap : Nat) (hu : P.underlying dT = some (.slice elem)) (hs : ((P.info? elem).map (·.size)).isSome = true) (hn : Nat.min sLen dLen = 0) :
    (Builtin.copy_ #[dT, sT] ty #[.slice d dLen dCap, .slice a sLen sCap]).run P w = .ok (goInt 0) w := by
  cases hq : P.info? elem with
  | none => simp [hq] at hs
  | some i =>
    have hl : ∀ (x : Addr), (loadCells x 0).run P w = .ok #[] w := fun x => by simpa using run_loadCells_list (P := P) w x [] (by simp)
    cases d <;> cases a <;> simp [Builtin.copy_, run_underlying hu, Builtin.lenOf, Builtin.firstCells, sizeOf, typeInfo, hq, hn, storeCells, hl]
theorem wpList_copy_zero {P : Program} {w : World} {ops : Array Oper} {rest : List Oper} {o : Oper} {a : Act} {Q : Exit → Act → World → Prop} (hgd : o.guard = none) (d s : Operand) (dT sT : TypeId)
    (ho : o.op = .call { callee := .builtin .copy, args := #[d, s], argTypes := #[dT, sT] }) (elem : TypeId) (hu : P.underlying dT = some (.slice elem)) (hsz : ((P.info? elem).map (·.size)).isSome = true)
    (dp sp : Option Addr) (dLen dCap sLen sCap : Nat) (hd : a.eval d = .slice dp dLen dCap) (hs : a.eval s = .slice sp sLen sCap) (hn : Nat.min sLen dLen = 0)
    (h : wpList P ops Q rest (a.put o.dst (goInt 0)) w) : wpList P ops Q (o :: rest) a w := by
  refine wpList_plain hgd fun K hK => ?_
  have hrun := run_copy_zero (P := P) w dT sT o.type elem dp sp dLen dCap sLen sCap hu hsz hn
  unfold Oper.wp
  simp [execOp, ho, resolve, invoke, builtin, hd, hs, hrun, Result.andThen]
  exact hK _ _ h

/-- a block that holds a list's cells, with room behind -/
def Row (w : World) (g cap : Nat) (l : List S62) : Prop := ∃ cur : Array Value, w.heap[g]? = some (.cells cur 62 (0, 0)) ∧ cur.size = cap * 4 ∧ cur.toList.take (l.length * 4) = cells62 l ∧ l.length ≤ cap ∧ cap ≤ maxLen
theorem Own.row {w : World} {base g n cap : Nat} {l : List S62} (h : Own w base (.slice (some ⟨g, 0, none⟩) n cap) l) : Row w g cap l := by
  rcases h.2 with ⟨h0, _⟩ | ⟨g', cap', cur, e, hg, hh, hnc, hcm, hsz, htk⟩
  · cases h0
  · injection e with e1 e2 e3
    injection e1 with e1
    injection e1 with e1
    subst e1 e3
    exact ⟨cur, hh, hsz, htk, hnc, hcm⟩
theorem Row.own {w : World} {g cap : Nat} {l : List S62} (h : Row w g cap l) (n : Nat) (hn : n = l.length) : Own w 0 (.slice (some ⟨g, 0, none⟩) n cap) l := by
  obtain ⟨cur, hh, hsz, htk, hnc, hcm⟩ := h
  subst hn
  exact ⟨cells62_length l, .inr ⟨g, cap, cur, rfl, Nat.zero_le _, hh, hnc, hcm, hsz, htk⟩⟩
theorem Row.keep {w w' : World} {g cap : Nat} {l : List S62} (h : Row w g cap l) (hk : w'.heap[g]? = w.heap[g]?) : Row w' g cap l := by
  obtain ⟨cur, hh, h⟩ := h
  exact ⟨cur, hk.trans hh, h⟩
theorem Row.lt {w : World} {g cap : Nat} {l : List S62} (h : Row w g cap l) : g < w.heap.size := by
  obtain ⟨cur, hh, h⟩ := h
  exact Blk.lt hh
/-- another list of the same length laid over its beginning -/
theorem Row.over {w : World} {g cap : Nat} {l l' r : List S62} (h : Row w g cap (l ++ r)) (hl : l'.length = l.length) :
    ∃ cur : Array Value, w.heap[g]? = some (.cells cur 62 (0, 0)) ∧ (cells62 l').length ≤ cur.size ∧ Row (w.setRow g (cur.toList.take 0 ++ cells62 l' ++ cur.toList.drop (0 + (cells62 l').length)).toArray) g cap (l' ++ r) := by
  obtain ⟨cur, hh, hsz, htk, hnc, hcm⟩ := h
  have e1 : (cells62 l').length = l.length * 4 := by rw [cells62_length, hl]
  have hle : l.length ≤ cap := by rw [List.length_append] at hnc; omega
  refine ⟨cur, hh, by rw [e1, hsz]; exact Nat.mul_le_mul_right _ hle, ⟨_, setRow_heap w g _ _ 62 _ hh, ?_, ?_, by rw [List.length_append, hl, ← List.length_append]; exact hnc, hcm⟩⟩
  · simp [hsz, e1]; omega
  · rw [List.take_zero, List.nil_append, Nat.zero_add, e1]
    have e2 : (l' ++ r).length * 4 = (cells62 l').length + r.length * 4 := by rw [e1, List.length_append, hl, Nat.add_mul]
    rw [e2, List.take_length_add_append, List.take_drop, cells62_append]
    congr 1
    rw [← Nat.add_mul, ← List.length_append, htk, cells62_append, List.drop_left' (cells62_length l)]
theorem rev_take (l : List S62) (k : Nat) (h : k < l.length) : l.reverse.take (k + 1) = l.reverse.take k ++ [rd_T62 l ((l.length - 1 - k : Nat) : Int)] := by
  rw [take_at l.reverse k (by simpa using h)]
  congr 2
  rw [rd_at l.reverse k (by simpa using h), rd_at l _ (by omega), List.getElem_reverse]

theorem Own.readsAt {w : World} {base n c : Nat} {A : Option Addr} {l : List S62} (h : Own w base (.slice A n c) l) (hm : l.length ≤ 9223372036854775807) : Kd.C k62 w A l.length l := by
  obtain ⟨A', c', e, hC, _⟩ := h.reads hm
  injection e with e1
  subst e1
  exact hC
end Go.Proofs.Ytobnehbcnlhchaa.Be
