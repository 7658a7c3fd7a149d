/- A bag in memory, and its smallest calls. Conditions: none. -/
import Derived.Test.YtilpffolldegbaaMem
import Derived.BigQuiet
import Derived.Deep.QuietTactic
import Derived.StillTailTactics
import Derived.Deep.RegionLaw
import Derived.Deep.RegionHeld3
namespace Go.Proofs.Ytilpffolldegbaa.Bg
open Go.RowKit Go.Proofs.Ytilpffolldegbaa.Mem
set_option linter.unusedVariables false

/-- two lists, place by place -/
def All2 {α β : Type} (R : α → β → Prop) (xs : List α) (ys : List β) : Prop := xs.length = ys.length ∧ ∀ (i : Nat) (x : α) (y : β), xs[i]? = some x → ys[i]? = some y → R x y
section
variable {α β : Type} {R R' : α → β → Prop} {xs xs' : List α} {ys ys' : List β}
theorem All2.nil : All2 R [] [] := ⟨rfl, fun i x y h => by simp at h⟩
theorem All2.imp (h : All2 R xs ys) (hi : ∀ x y, R x y → R' x y) : All2 R' xs ys := ⟨h.1, fun i x y hx hy => hi x y (h.2 i x y hx hy)⟩
theorem All2.append (h : All2 R xs ys) (h' : All2 R xs' ys') : All2 R (xs ++ xs') (ys ++ ys') := by
  refine ⟨by rw [List.length_append, List.length_append, h.1, h'.1], fun i x y hx hy => ?_⟩
  rcases Nat.lt_or_ge i xs.length with hi | hi
  · rw [List.getElem?_append_left hi] at hx
    rw [List.getElem?_append_left (by have := h.1; omega)] at hy
    exact h.2 i x y hx hy
  · rw [List.getElem?_append_right hi] at hx
    rw [List.getElem?_append_right (by have := h.1; omega), ← h.1] at hy
    exact h'.2 _ x y hx hy
theorem All2.one {x : α} {y : β} (h : R x y) : All2 R [x] [y] := ⟨rfl, fun i a b ha hb => by
  match i, ha, hb with
  | 0, ha, hb => cases ha; cases hb; exact h
  | i + 1, ha, _ => simp at ha⟩
theorem All2.at_ (h : All2 R xs ys) (i : Nat) (hi : i < xs.length) : ∃ y, ys[i]? = some y ∧ R xs[i] y := by
  have hj : i < ys.length := by have := h.1; omega
  exact ⟨ys[i], List.getElem?_eq_getElem hj, h.2 i _ _ (List.getElem?_eq_getElem hi) (List.getElem?_eq_getElem hj)⟩
theorem All2.take (h : All2 R xs ys) (k : Nat) : All2 R (xs.take k) (ys.take k) := ⟨by simp [h.1], fun i x y hx hy => by
  rw [List.getElem?_take] at hx hy
  split at hx
  · rw [if_pos (by assumption)] at hy; exact h.2 i x y hx hy
  · cases hx⟩
theorem All2.drop (h : All2 R xs ys) (k : Nat) : All2 R (xs.drop k) (ys.drop k) := ⟨by simp [h.1], fun i x y hx hy => by
  rw [List.getElem?_drop] at hx hy
  exact h.2 _ x y hx hy⟩
theorem All2.set (h : All2 R xs ys) (k : Nat) {x : α} {y : β} (hr : R x y) : All2 R (xs.set k x) (ys.set k y) := ⟨by simp [h.1], fun i a b ha hb => by
  rw [List.getElem?_set] at ha hb
  by_cases e : k = i
  · rw [if_pos e] at ha hb
    split at ha
    · rw [if_pos (by have := h.1; omega)] at hb
      cases ha; cases hb; exact hr
    · cases ha
  · rw [if_neg e] at ha hb
    exact h.2 i a b ha hb⟩
end
/-- rows of like length, laid one behind the other -/
theorem flat_len {sz : Nat} : ∀ {ch : List (List Value)}, (∀ c ∈ ch, c.length = sz) → ch.flatten.length = ch.length * sz
  | [], _ => by simp
  | c :: r, h => by
    rw [List.flatten_cons, List.length_append, h c (by simp), flat_len (fun c hc => h c (by simp [hc])), List.length_cons, Nat.add_mul, Nat.one_mul, Nat.add_comm]
theorem flat_get {sz : Nat} (i j : Nat) (c : List Value) (u : Value) : ∀ {ch : List (List Value)}, (∀ c ∈ ch, c.length = sz) → ch[i]? = some c → c[j]? = some u → ch.flatten[i * sz + j]? = some u := by
  induction i with
  | zero =>
    intro ch h hc hu
    match ch, hc with
    | c' :: r, hc =>
      simp at hc
      subst hc
      rw [List.flatten_cons, Nat.zero_mul, Nat.zero_add, List.getElem?_append_left (List.getElem?_eq_some_iff.1 hu).1]
      exact hu
  | succ i ih =>
    intro ch h hc hu
    match ch, hc with
    | c' :: r, hc =>
      rw [List.getElem?_cons_succ] at hc
      have hl := h c' (by simp)
      rw [List.flatten_cons, List.getElem?_append_right (by rw [hl, Nat.add_mul, Nat.one_mul]; omega), hl, show (i + 1) * sz + j - sz = i * sz + j by rw [Nat.add_mul, Nat.one_mul]; omega]
      exact ih (fun c hc => h c (by simp [hc])) hc hu
theorem flat_set {sz : Nat} (j : Nat) (u : Value) : ∀ (i : Nat) {ch : List (List Value)} (c : List Value), (∀ c ∈ ch, c.length = sz) → ch[i]? = some c → j < sz → ch.flatten.set (i * sz + j) u = (ch.set i (c.set j u)).flatten := by
  intro i
  induction i with
  | zero =>
    intro ch c h hc hj
    match ch, hc with
    | c' :: r, hc =>
      simp at hc
      subst hc
      rw [List.flatten_cons, List.set_cons_zero, List.flatten_cons, Nat.zero_mul, Nat.zero_add, List.set_append_left _ _ (by rw [h c' (by simp)]; exact hj)]
  | succ i ih =>
    intro ch c h hc hj
    match ch, hc with
    | c' :: r, hc =>
      rw [List.getElem?_cons_succ] at hc
      have hl := h c' (by simp)
      rw [List.flatten_cons, List.set_cons_succ, List.flatten_cons, List.set_append_right _ _ (by rw [hl, Nat.add_mul, Nat.one_mul]; omega), hl, show (i + 1) * sz + j - sz = i * sz + j by rw [Nat.add_mul, Nat.one_mul]; omega]
      rw [ih c (fun c hc => h c (by simp [hc])) hc hj]
theorem flat_take {sz : Nat} : ∀ (i : Nat) {ch : List (List Value)}, (∀ c ∈ ch, c.length = sz) → ch.flatten.take (i * sz) = (ch.take i).flatten := by
  intro i
  induction i with
  | zero => intro ch _; simp
  | succ i ih =>
    intro ch h
    match ch with
    | [] => simp
    | c :: r =>
      have hl := h c (by simp)
      rw [List.flatten_cons, List.take_succ_cons, List.flatten_cons, Nat.add_mul, Nat.one_mul, Nat.add_comm, ← hl, List.take_length_add_append]
      rw [hl, ih (fun c hc => h c (by simp [hc]))]
theorem flat_drop {sz : Nat} : ∀ (i : Nat) {ch : List (List Value)}, (∀ c ∈ ch, c.length = sz) → ch.flatten.drop (i * sz) = (ch.drop i).flatten := by
  intro i
  induction i with
  | zero => intro ch _; simp
  | succ i ih =>
    intro ch h
    match ch with
    | [] => simp
    | c :: r =>
      have hl := h c (by simp)
      rw [List.flatten_cons, List.drop_succ_cons, Nat.add_mul, Nat.one_mul, Nat.add_comm, ← hl, List.drop_length_add_append]
      rw [hl, ih (fun c hc => h c (by simp [hc]))]

/-- a packet -/
structure Pk where (num fr to age turned : Int) (data : List UInt8)
deriving DecidableEq
def Pk.cells (p : Pk) (A : Option Addr) (c : Nat) : List Value := [.int .i64 p.num, .int .i64 p.fr, .int .i64 p.to, .int .i64 p.age, .int .i64 p.turned, .slice A p.data.length c]
/-- cells that read as a packet; its bytes lie in blocks of bytes that are not of H -/
def PkC (H : Nat → Prop) (w : World) (p : Pk) (cs : List Value) : Prop := ∃ A c, cs = p.cells A c ∧ p.data.length ≤ c ∧ BR (T8 5 H w) w A p.data
/-- a slice of packets that has a row of its own -/
def PR (H : Nat → Prop) (w : World) (rb : Option Nat) (v : Value) (ps : List Pk) : Prop := ∃ ch : List (List Value), Row w 31 6 rb v ps.length ch.flatten ∧ All2 (PkC H w) ps ch
/-- what a bag knows -/
structure St where (room laid : Int) (ps : List Pk)
def Bag (H : Nat → Prop) (w : World) (g : Nat) (rb : Option Nat) (s : St) : Prop := ∃ v, Bk w g 76 [.int .i64 s.room, .int .i64 s.laid, v] ∧ PR H w rb v s.ps
/-- the blocks that a bag's calls may write -/
def Sg (g : Nat) (rb : Option Nat) : Nat → Prop := fun k => k = g ∨ rb = some k
def Nb (w : World) (rb rb' : Option Nat) : Prop := rb' = rb ∨ ∃ k, rb' = some k ∧ w.heap.size ≤ k
section
variable {H S : Nat → Prop} {w w1 : World} {g : Nat} {rb : Option Nat} {v : Value} {ps : List Pk} {p : Pk} {cs : List Value} {s : St}
theorem Nb.new {w1 : World} {rb1 : Option Nat} (h : Nb w rb rb1) (hw : w1.heap.size ≤ w.heap.size) : Nb w1 rb rb1 := by
  rcases h with h | ⟨k, h, hk⟩
  · exact .inl h
  · exact .inr ⟨k, h, by omega⟩
theorem PkC.len (h : PkC H w p cs) : cs.length = 6 := by obtain ⟨A, c, rfl, _⟩ := h; rfl
theorem PkC.fr (h : PkC H w p cs) (hf : Fr S w w1) (hn : ∀ k, S k → BT w k 5 → H k) : PkC H w1 p cs := by
  obtain ⟨A, c, e, hl, hb⟩ := h
  exact ⟨A, c, e, hl, hb.frT hf hn⟩
theorem PR.lens {ch : List (List Value)} (h : All2 (PkC H w) ps ch) : ∀ c ∈ ch, c.length = 6 := by
  intro c hc
  obtain ⟨i, hi, rfl⟩ := List.mem_iff_getElem.1 hc
  obtain ⟨p, hp⟩ : ∃ p, ps[i]? = some p := ⟨_, List.getElem?_eq_getElem (by have := h.1; omega)⟩
  exact (h.2 i p _ hp (List.getElem?_eq_getElem hi)).len
theorem PR.fr (h : PR H w rb v ps) (hf : Fr S w w1) (hr : ∀ k, rb = some k → ¬ S k) (hn : ∀ k, S k → BT w k 5 → H k) : PR H w1 rb v ps := by
  obtain ⟨ch, h1, h2⟩ := h
  exact ⟨ch, h1.fr hf hr, h2.imp (fun _ _ hp => hp.fr hf hn)⟩
theorem PR.below (h : PR H w rb v ps) (hf : Below w.heap.size w w1) : PR H w1 rb v ps := h.fr (S := No) (Fr.of hf _) (fun _ _ q => q) (fun _ q => q.elim)
theorem PR.nil (H : Nat → Prop) (w : World) : PR H w none (.slice none 0 0) [] := ⟨[], Row.nil _ _ _, All2.nil⟩
theorem PR.no (H : Nat → Prop) (w : World) (A : Option Addr) : PR H w none (.slice A 0 0) [] := ⟨[], Row.no _ _ _ A, All2.nil⟩
theorem PR.val (h : PR H w rb v ps) : ∃ A c, v = .slice A ps.length c ∧ ps.length ≤ c := by obtain ⟨ch, h1, _⟩ := h; exact h1.val
theorem PR.bt (h : PR H w rb v ps) {k : Nat} (hk : rb = some k) : BT w k 31 := by obtain ⟨ch, h1, _⟩ := h; exact h1.bt hk
/-- packet i's cells -/
theorem PR.at_ (h : PR H w rb v ps) (i : Nat) (hi : i < ps.length) : ∃ r c A cap, rb = some r ∧ v = .slice (some ⟨r, 0, none⟩) ps.length c ∧ ps.length ≤ c ∧ ps[i].data.length ≤ cap ∧ BR (T8 5 H w) w A ps[i].data ∧
    w.cell? ⟨r, i * 6, none⟩ = some (.int .i64 ps[i].num) ∧ w.cell? ⟨r, i * 6 + 1, none⟩ = some (.int .i64 ps[i].fr) ∧ w.cell? ⟨r, i * 6 + 2, none⟩ = some (.int .i64 ps[i].to) ∧ w.cell? ⟨r, i * 6 + 3, none⟩ = some (.int .i64 ps[i].age) ∧
    w.cell? ⟨r, i * 6 + 4, none⟩ = some (.int .i64 ps[i].turned) ∧ w.cell? ⟨r, i * 6 + 5, none⟩ = some (.slice A ps[i].data.length cap) ∧ (∀ j, w.frozen? ⟨r, j, none⟩ = false) := by
  obtain ⟨ch, h1, h2⟩ := h
  obtain ⟨r, c, hr, hv, hc, hcell, hfr⟩ := h1.at_ (by omega)
  obtain ⟨cs, hcs, A, cap, rfl, hl, hb⟩ := h2.at_ i hi
  have hq : ∀ j u, (ps[i].cells A cap)[j]? = some u → w.cell? ⟨r, i * 6 + j, none⟩ = some u := fun j u hu => hcell _ u (flat_get i j _ u (PR.lens h2) hcs hu)
  exact ⟨r, c, A, cap, hr, hv, hc, hl, hb, hq 0 _ rfl, hq 1 _ rfl, hq 2 _ rfl, hq 3 _ rfl, hq 4 _ rfl, hq 5 _ rfl, hfr⟩
theorem Bag.fr (h : Bag H w g rb s) (hf : Fr S w w1) (hg : ¬ S g) (hr : ∀ k, rb = some k → ¬ S k) (hn : ∀ k, S k → BT w k 5 → H k) : Bag H w1 g rb s := by
  obtain ⟨v, h1, h2⟩ := h
  exact ⟨v, h1.fr hf hg, h2.fr hf hr hn⟩
theorem Bag.below (h : Bag H w g rb s) (hf : Below w.heap.size w w1) : Bag H w1 g rb s := h.fr (S := No) (Fr.of hf _) (fun q => q) (fun _ _ q => q) (fun _ q => q.elim)
theorem Bag.lt (h : Bag H w g rb s) : g < w.heap.size := by obtain ⟨v, h1, _⟩ := h; exact h1.lt
/-- what a bag's calls may write is no bytes -/
theorem Bag.sg (h : Bag H w g rb s) : ∀ k, Sg g rb k → BT w k 5 → H k := by
  obtain ⟨v, h1, h2⟩ := h
  intro k hk h8
  rcases hk with rfl | hk
  · exact absurd rfl (h1.bt.ne h8 (by decide))
  · exact absurd rfl ((h2.bt hk).ne h8 (by decide))
end
theorem infoPk : (Try.prog.info? 31).map (fun i => (i.zero, i.size, i.bytes)) = some (some (.agg #[.int .i64 0, .int .i64 0, .int .i64 0, .int .i64 0, .int .i64 0, .slice none 0 0]), 6, 64) := by kernel_rfl
theorem info8 : (Try.prog.info? 5).map (fun i => (i.zero, i.size, i.bytes)) = some (some (.int .u8 0), 1, 1) := by kernel_rfl
theorem size8 : (Try.prog.info? 5).map (·.size) = some 1 := by kernel_rfl

/-- bytes of their own: a whole block -/
theorem rep_bv (n : Nat) (l : List UInt8) (hl : l.length = n) : splice (List.replicate n (Value.int .u8 0)) 0 (bv l) = bv l := by
  unfold splice
  rw [List.take_zero, List.nil_append, Nat.zero_add, bv_len, hl, List.drop_replicate, Nat.sub_self, List.replicate_zero, List.append_nil]
theorem copied (A : Option Addr) (n c : Nat) (l : List UInt8) (w : World) (hl : l.length = n) (hn : n ≤ 140737488355328) (hA : BR Any w A l) :
    Calls Try.prog 34 #[.slice A n c] w fun e w' => e = .returned (.slice (some ⟨w.heap.size, 0, none⟩) n n) ∧ Bk w' w.heap.size 5 (bv l) ∧ Fr No w w' := by
  have HA := Lib.hid hA
  have HL := Lib.hid hl
  clear hA hl
  go_enter Try.func34, Try.ntmps34
  go_wp2_with (first | (at_make; refine wl_make w rfl (.tmp 5) (.tmp 5) 22 rfl 5 (.int .u8 0) 1 Try.underlying22 info8 rfl (n : Int) n rfl rfl rfl (by omega) (by unfold maxLen; omega) ?_; intro w1 hB1 hs1 hF1) | (refine wl_copy w1 rfl (.tmp 7) (.tmp 8) 22 22 rfl 5 Try.underlying22 size8 w.heap.size 0 n n A n c rfl rfl 5 _ hB1 (bv l) (by rw [bv_len, HL.out]; simp) (fun h0 => (HA.out.fr (S := No) hF1 (fun _ _ _ q => q)).cells (by rw [bv_len] at h0; exact h0)) (by rw [bv_len, HL.out]; simp) (bv_one l) ?_; intro w2 hB2 hF2))
  rw [rep_bv n l HL.out] at hB2
  go_ret
  exact ⟨rfl, hB2, hF1.trans hF2 (fun k hk q => by omega)⟩
end Go.Proofs.Ytilpffolldegbaa.Bg
