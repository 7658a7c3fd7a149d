/- Words: append of texts, told more closely. Conditions: none. -/
import Derived.Test.YtdhlbdllidfenaaDoorBkC
namespace Go.Proofs.YtdhlbdllidfenaaDoor.Wd
open Go.RowKit Go.Proofs.YtdhlbdllidfenaaDoor.Mem
set_option linter.unusedVariables false
set_option linter.unusedSimpArgs false
theorem nextcap_le {need old : Nat} (h : old < need) : Builtin.nextslicecap need old ≤ need + need / 4 + 1024 := by
  unfold Builtin.nextslicecap
  split
  · omega
  · split
    · omega
    · rw [growBy_four]
      repeat' split
      all_goals omega
theorem Row.form {w : World} {e size g n : Nat} {v : Value} {xs : List Value} (h : Row w e size (some g) v n xs) : ∃ c, v = .slice (some ⟨g, 0, none⟩) n c ∧ n ≤ c := by
  rcases h with ⟨h1, _⟩ | ⟨g', hr, hb, h⟩
  · cases h1
  · rcases h.2 with ⟨rfl, _⟩ | ⟨g'', cap, cur, rfl, _, _, hc, _⟩
    · simp [Value.ownBlock] at hb
    · have : g'' = g' := by simpa [Value.ownBlock] using hb
      subst this
      cases hr
      exact ⟨cap, rfl, hc⟩
set_option maxRecDepth 100000 in
theorem run_appendS (w : World) (rb : Option Nat) (v : Value) (n : Nat) (l : List (List UInt8)) (hr : Row w 9 1 rb v n (l.map sv)) (ad : Addr) (m c : Nat) (k : List (List UInt8)) (hl : k.length = m) (hm : 0 < m) (hk : TR Any w (some ad) k) (hb : n + m ≤ 4000000000000) :
    ∃ v' w' rb', (Builtin.append_ #[26, 26] 26 #[v, .slice (some ad) m c]).run Tryd.prog w = .ok v' w' ∧ Row w' 9 1 rb' v' (n + m) ((l ++ k).map sv) ∧ ((rb' = rb ∧ Fr (fun q => rb = some q) w w') ∨ (∃ q, rb' = some q ∧ w.heap.size ≤ q ∧ Fr No w w')) := by
  rw [List.map_append]
  obtain ⟨ad', had, hcell⟩ := hk.cells (by omega)
  cases had
  have hkl : (k.map sv).length = m := by rw [List.length_map, hl]
  have hll : (l.map sv).length = n := by have := hr.len; omega
  obtain ⟨i, hi, hz⟩ := Option.map_eq_some_iff.1 infoStr
  simp only [Prod.mk.injEq] at hz
  obtain ⟨hz0, hz1, hz2⟩ := hz
  have grown : ∀ (old : Nat), old < n + m → ∀ (olds : List Value), olds = l.map sv →
      Row (w.drew.alloc (.cells (olds.toArray ++ (k.map sv).toArray ++ Builtin.zeroCells (Value.string ⟨#[]⟩).cells (grownCap w (n + m) old 9 - (n + m))) 9)) 9 1 (some w.heap.size) (.slice (some ⟨w.heap.size, 0, none⟩) (n + m) (grownCap w (n + m) old 9)) (n + m) (l.map sv ++ k.map sv) := by
    rintro old ho _ rfl
    have hge := grownCap_ge w (n + m) old 9
    have hmx : grownCap w (n + m) old 9 ≤ maxLen := grownCap_le_maxLen w (n + m) old 9 (by unfold maxLen; omega)
    refine Row.shut (sp := (Builtin.zeroCells (Value.string ⟨#[]⟩).cells (grownCap w (n + m) old 9 - (n + m))).toList) ?_ (by rw [List.length_append]; omega) (by rw [Array.length_toList, size_zeroCells]; simp [Value.cells]) hge hmx
    have := heap_alloc_new w.drew (.cells ((l.map sv).toArray ++ (k.map sv).toArray ++ Builtin.zeroCells (Value.string ⟨#[]⟩).cells (grownCap w (n + m) old 9 - (n + m))) 9)
    show (w.drew.alloc _).heap[w.heap.size]? = _
    rw [show w.heap.size = w.drew.heap.size from rfl, this]
    congr 2
    apply Array.ext'
    simp
  rcases rb with _ | g
  · rcases hr with ⟨_, rfl, hx, A', rfl⟩ | ⟨g, h, _⟩
    · rcases A' with _ | a'
      · have hr := run_append_nil (P := Tryd.prog) w 26 26 9 i (.string ⟨#[]⟩) Tryd.underlying26 hi hz0 ad m c (k.map sv) (by rw [hz1]; omega) hcell hm (by omega) (by rw [hz2]; omega)
        have hg := grown 0 (by omega) (l.map sv) rfl
        rw [hx] at hg ⊢
        simp only [Nat.zero_add, List.nil_append] at hg ⊢
        have e : (#[] : Array Value) ++ (k.map sv).toArray = (k.map sv).toArray := by simp
        rw [show ([] : List Value).toArray = #[] from rfl, e] at hg
        exact ⟨_, _, some w.heap.size, hr, hg, .inr ⟨_, rfl, Nat.le_refl _, (Fr.refl _ _).drew.alloc _⟩⟩
      · have hr := run_append_grow (P := Tryd.prog) w 26 26 9 i (.string ⟨#[]⟩) Tryd.underlying26 hi hz0 a' 0 0 [] (by simp) (fun j u hj => by simp at hj) ad m c (k.map sv) (by rw [hz1]; omega) hcell (by omega) (by omega) (by rw [hz2]; have := nextcap_le (need := 0 + m) (old := 0) (by omega); omega)
        exact ⟨_, _, some w.heap.size, hr, grown 0 (by omega) [] hx.symm, .inr ⟨_, rfl, Nat.le_refl _, (Fr.refl _ _).drew.alloc _⟩⟩
    · cases h
  · obtain ⟨cap, rfl, hle⟩ := Row.form hr
    obtain ⟨sp, hB, hsp, _, hcm⟩ := hr.open_
    have hcl : ∀ (j : Nat) (u : Value), (l.map sv)[j]? = some u → w.cell? ((⟨g, 0, none⟩ : Addr).add j) = some u := fun j u hj => by
      rw [add0, hB.cell j, List.getElem?_append_left (List.getElem?_eq_some_iff.1 hj).1]
      exact hj
    by_cases hroom : n + m ≤ cap
    · obtain ⟨w', h1, h2, h3⟩ := run_append_in (P := Tryd.prog) w 26 26 9 (.string ⟨#[]⟩) 1 16 Tryd.underlying26 infoStr g n cap (l.map sv ++ sp) hB (some ad) m c (k.map sv) (by omega) (fun _ => ⟨ad, rfl, hcell⟩) (sv_one k) hroom (by rw [List.length_append]; omega)
      refine ⟨_, w', some g, h1, ?_, .inl ⟨rfl, h3.mono (fun q _ e => by rw [e])⟩⟩
      refine Row.shut (sp := (sp.drop m)) ?_ (by rw [List.length_append]; omega) (by rw [List.length_drop]; omega) hroom hcm
      rw [Nat.mul_one, hkl] at h2
      rw [List.take_left' hll, ← List.drop_drop, List.drop_left' hll] at h2
      exact h2
    · have hr := run_append_grow (P := Tryd.prog) w 26 26 9 i (.string ⟨#[]⟩) Tryd.underlying26 hi hz0 ⟨g, 0, none⟩ n cap (l.map sv) (by rw [hz1]; omega) hcl ad m c (k.map sv) (by rw [hz1]; omega) hcell (by omega) (by omega) (by rw [hz2]; have := nextcap_le (need := n + m) (old := cap) (by omega); omega)
      exact ⟨_, _, some w.heap.size, hr, grown cap (by omega) (l.map sv) rfl, .inr ⟨_, rfl, Nat.le_refl _, (Fr.refl _ _).drew.alloc _⟩⟩
theorem wl_appendS {w : World} {ops : Array Oper} {rest : List Oper} {o : Oper} {a : Act} {Q : Exit → Act → World → Prop} (hgd : o.guard = none) (s x : Operand) (ho : o.op = .call { callee := .builtin .append, args := #[s, x], argTypes := #[26, 26] }) (hty : o.type = 26)
    (rb : Option Nat) (v : Value) (n : Nat) (l : List (List UInt8)) (hs : a.eval s = v) (hr : Row w 9 1 rb v n (l.map sv)) (ad : Addr) (m c : Nat) (k : List (List UInt8)) (hx : a.eval x = .slice (some ad) m c) (hl : k.length = m) (hm : 0 < m) (hk : TR Any w (some ad) k) (hb : n + m ≤ 4000000000000)
    (h : ∀ A' c' w' rb', Row w' 9 1 rb' (.slice A' (n + m) c') (n + m) ((l ++ k).map sv) → ((rb' = rb ∧ Fr (fun q => rb = some q) w w') ∨ (∃ q, rb' = some q ∧ w.heap.size ≤ q ∧ Fr No w w')) → wpList Tryd.prog ops Q rest (a.put o.dst (.slice A' (n + m) c')) w') : wpList Tryd.prog ops Q (o :: rest) a w := by
  refine wpList_plain hgd fun K hK => ?_
  obtain ⟨v', w', rb', hrun, h1, h2⟩ := run_appendS w rb v n l hr ad m c k hl hm hk hb
  obtain ⟨A', c', rfl, _⟩ := h1.val
  unfold Oper.wp execOp
  simp only [ho, hty, resolve, invoke, builtin, Sem.run_bind, Sem.run_pure, Result.andThen_ok, List.map_toArray, List.map_cons, List.map_nil, hs, hx, hrun]
  exact hK _ _ (h A' c' w' rb' h1 h2)
end Go.Proofs.YtdhlbdllidfenaaDoor.Wd
