/- Words for memory: what a call may write, what kind a block is, bytes that are read. Conditions: none. -/
import Derived.Test.YtobnehbcnlhchaaProg
import Derived.WalkKit
import Derived.Below
import Derived.Lib.Hide
import Derived.Laws.OwnMore
import Derived.Laws.MakeOwn
import Derived.Laws.CopyOwn
import Derived.OwnWalk
import Derived.Maps.AppendAt
import Derived.Deep.AppendLies
import Derived.Deep.Draws
import Derived.ArgAppend
import Derived.Deep.RegionLaw
namespace Go.Proofs.Ytobnehbcnlhchaa.Mem
open Go.RowKit
set_option linter.unusedVariables false

/-- all but the blocks of S, and what is new, is as it was -/
structure Fr (S : Nat → Prop) (w w' : World) : Prop where
  os : w'.os = w.os
  tape : w'.tape = w.tape
  output : w'.output = w.output
  size : w.heap.size ≤ w'.heap.size
  block : ∀ k, k < w.heap.size → ¬ S k → w'.heap[k]? = w.heap[k]?
def No : Nat → Prop := fun _ => False
section
variable {S S' : Nat → Prop} {w w1 w2 : World} {B : Nat}
theorem Fr.refl (S : Nat → Prop) (w : World) : Fr S w w := ⟨rfl, rfl, rfl, Nat.le_refl _, fun _ _ _ => rfl⟩
theorem Fr.mono (h : Fr S w w1) (hs : ∀ k, k < w.heap.size → S k → S' k) : Fr S' w w1 := ⟨h.os, h.tape, h.output, h.size, fun k hk hn => h.block k hk (fun q => hn (hs k hk q))⟩
theorem Fr.trans (h : Fr S w w1) (k : Fr S' w1 w2) (hs : ∀ j, j < w.heap.size → S' j → S j) : Fr S w w2 :=
  ⟨k.os.trans h.os, k.tape.trans h.tape, k.output.trans h.output, Nat.le_trans h.size k.size, fun j hj hn => (k.block j (Nat.lt_of_lt_of_le hj h.size) (fun q => hn (hs j hj q))).trans (h.block j hj hn)⟩
theorem Fr.then_ (h : Fr S w w1) (k : Fr S w1 w2) : Fr S w w2 := h.trans k (fun _ _ q => q)
theorem Fr.below (h : Below B w w1) (hB : w.heap.size ≤ B) (S : Nat → Prop) : Fr S w w1 := ⟨h.os, h.tape, h.output, h.size, fun k hk _ => h.block k (Nat.lt_of_lt_of_le hk hB)⟩
theorem Fr.of (h : Below w.heap.size w w1) (S : Nat → Prop) : Fr S w w1 := Fr.below h (Nat.le_refl _) S
theorem Fr.to (h : Fr No w w1) : Below w.heap.size w w1 := ⟨h.os, h.tape, h.output, h.size, fun k hk => h.block k hk id⟩
theorem Fr.toB (h : Fr S w w1) (hs : ∀ k, S k → B ≤ k) (hB : B ≤ w.heap.size) : Below B w w1 := ⟨h.os, h.tape, h.output, h.size, fun k hk => h.block k (Nat.lt_of_lt_of_le hk hB) (fun q => by have := hs k q; omega)⟩
theorem Fr.grown {r : Option Nat} (h : w.grownBy w1 r) (hs : ∀ k, r = some k → S k) : Fr S w w1 := ⟨h.os, h.tape, h.output, h.size, fun k hk hn => h.block k hk (fun e => hn (hs k e.symm))⟩
theorem Fr.alloc (h : Fr S w w1) (o : Obj) : Fr S w (w1.alloc o) := h.then_ ⟨rfl, rfl, rfl, by simp, fun k hk _ => Below.heap_alloc _ _ _ hk⟩
theorem Fr.drew (h : Fr S w w1) : Fr S w w1.drew := ⟨h.os, h.tape, h.output, h.size, h.block⟩
theorem Fr.drewN (h : Fr S w w1) (n : Nat) : Fr S w (w1.drewN n) := ⟨h.os, h.tape, h.output, h.size, h.block⟩
theorem Fr.set (h : Fr S w w1) {p : Addr} (hp : S p.block ∨ w.heap.size ≤ p.block) (u : Value) : Fr S w (w1.setCell p u) :=
  ⟨h.os, h.tape, h.output, by simpa [World.setCell] using h.size, fun k hk hn => (Below.heap_setCell w1 p u k (fun e => by subst e; rcases hp with q | q; exact hn q; omega)).trans (h.block k hk hn)⟩
theorem Below.fr {w0 : World} (h : Below B w0 w) (k : Fr S w w1) (hs : ∀ j, S j → B ≤ j) (hB : B ≤ w.heap.size) : Below B w0 w1 := h.trans (k.toB hs hB)
theorem Below.fr0 {w0 : World} (h : Below B w0 w) (k : Fr No w w1) (hB : B ≤ w.heap.size) : Below B w0 w1 := h.trans (k.toB (fun _ q => q.elim) hB)
end

/-- block b is one of elements of type t -/
def BT (w : World) (b t : Nat) : Prop := ∃ cs fr, w.heap[b]? = some (.cells cs t fr)
/-- block b is just these cells -/
def Bk (w : World) (b t : Nat) (cs : List Value) : Prop := w.heap[b]? = some (.cells cs.toArray t (0, 0))
section
variable {S : Nat → Prop} {w w1 : World} {b b' t t' : Nat} {cs cs' : List Value}
theorem lt_of_some {o : Obj} (h : w.heap[b]? = some o) : b < w.heap.size := (Array.getElem?_eq_some_iff.1 h).1
theorem BT.lt (h : BT w b t) : b < w.heap.size := by obtain ⟨_, _, h⟩ := h; exact lt_of_some h
theorem BT.fr (h : BT w b t) (hf : Fr S w w1) (hn : ¬ S b) : BT w1 b t := by
  have hl := h.lt
  obtain ⟨cs, fr, h⟩ := h
  exact ⟨cs, fr, (hf.block b hl hn).trans h⟩
theorem BT.ne (h : BT w b t) (h' : BT w b' t') (hne : t ≠ t') : b ≠ b' := by
  rintro rfl
  obtain ⟨_, _, h⟩ := h
  obtain ⟨_, _, h'⟩ := h'
  rw [h] at h'
  injection h' with h'
  injection h' with _ e
  exact hne e
theorem BT.new {w : World} (cs : Array Value) (t : Nat) (fr : Nat × Nat) : BT (w.alloc (.cells cs t fr)) w.heap.size t := ⟨cs, fr, heap_alloc_new w _⟩
theorem Bk.bt (h : Bk w b t cs) : BT w b t := ⟨_, _, h⟩
theorem Bk.lt (h : Bk w b t cs) : b < w.heap.size := lt_of_some h
theorem Bk.fr (h : Bk w b t cs) (hf : Fr S w w1) (hn : ¬ S b) : Bk w1 b t cs := (hf.block b h.lt hn).trans h
theorem Bk.below (h : Bk w b t cs) (hf : Below w.heap.size w w1) : Bk w1 b t cs := (hf.block b h.lt).trans h
theorem Bk.new (w : World) (t : Nat) (cs : List Value) : Bk (w.alloc (.cells cs.toArray t (0, 0))) w.heap.size t cs := heap_alloc_new w _
theorem Bk.cell (h : Bk w b t cs) (j : Nat) : w.cell? ⟨b, j, none⟩ = cs[j]? := by rw [Bk] at h; simp [World.cell?, h]
theorem Bk.free (h : Bk w b t cs) (j : Nat) : w.frozen? ⟨b, j, none⟩ = false := by rw [Bk] at h; simp [World.frozen?, h]
theorem Bk.one {x0 : Value} (h : Bk w b t [x0]) : w.cell? ⟨b, 0, none⟩ = some x0 ∧ ∀ j, w.frozen? ⟨b, j, none⟩ = false := ⟨h.cell 0, h.free⟩
theorem Bk.two {x0 x1 : Value} (h : Bk w b t [x0, x1]) : w.cell? ⟨b, 0, none⟩ = some x0 ∧ w.cell? ⟨b, 1, none⟩ = some x1 ∧ ∀ j, w.frozen? ⟨b, j, none⟩ = false := ⟨h.cell 0, h.cell 1, h.free⟩
theorem Bk.three {x0 x1 x2 : Value} (h : Bk w b t [x0, x1, x2]) : w.cell? ⟨b, 0, none⟩ = some x0 ∧ w.cell? ⟨b, 1, none⟩ = some x1 ∧ w.cell? ⟨b, 2, none⟩ = some x2 ∧ ∀ j, w.frozen? ⟨b, j, none⟩ = false := ⟨h.cell 0, h.cell 1, h.cell 2, h.free⟩
theorem Bk.four {x0 x1 x2 x3 : Value} (h : Bk w b t [x0, x1, x2, x3]) : w.cell? ⟨b, 0, none⟩ = some x0 ∧ w.cell? ⟨b, 1, none⟩ = some x1 ∧ w.cell? ⟨b, 2, none⟩ = some x2 ∧ w.cell? ⟨b, 3, none⟩ = some x3 ∧ ∀ j, w.frozen? ⟨b, j, none⟩ = false := ⟨h.cell 0, h.cell 1, h.cell 2, h.cell 3, h.free⟩
theorem Bk.six {x0 x1 x2 x3 x4 x5 : Value} (h : Bk w b t [x0, x1, x2, x3, x4, x5]) : w.cell? ⟨b, 0, none⟩ = some x0 ∧ w.cell? ⟨b, 1, none⟩ = some x1 ∧ w.cell? ⟨b, 2, none⟩ = some x2 ∧ w.cell? ⟨b, 3, none⟩ = some x3 ∧ w.cell? ⟨b, 4, none⟩ = some x4 ∧ w.cell? ⟨b, 5, none⟩ = some x5 ∧ ∀ j, w.frozen? ⟨b, j, none⟩ = false := ⟨h.cell 0, h.cell 1, h.cell 2, h.cell 3, h.cell 4, h.cell 5, h.free⟩
theorem Bk.set (h : Bk w b t cs) (i : Nat) (u : Value) : Bk (w.setCell ⟨b, i, none⟩ u) b t (cs.set i u) := by
  rw [Bk] at h ⊢
  simp [World.setCell, Array.getElem?_modify, h]
theorem Bk.far (h : Bk w b t cs) {p : Addr} (hp : b ≠ p.block) (u : Value) : Bk (w.setCell p u) b t cs := (Below.heap_setCell w p u b hp).trans h
theorem Bk.drew (h : Bk w b t cs) : Bk w.drew b t cs := h
theorem Bk.alloc (h : Bk w b t cs) (o : Obj) : Bk (w.alloc o) b t cs := (Below.heap_alloc w o b h.lt).trans h
theorem Bk.inj (h : Bk w b t cs) (h' : Bk w b t' cs') : cs = cs' := by
  rw [Bk] at h h'
  rw [h] at h'
  injection h' with h'
  injection h' with e
  exact congrArg Array.toList e
end

/-- bytes as values -/
def bv (l : List UInt8) : List Value := l.map fun b => .int .u8 (b.toNat : Int)
theorem bv_len (l : List UInt8) : (bv l).length = l.length := by simp [bv]
theorem bv_append (a b : List UInt8) : bv (a ++ b) = bv a ++ bv b := by simp [bv]
theorem bv_one (l : List UInt8) : ∀ u ∈ bv l, u.oneCell' = true := by
  intro u hu
  simp only [bv, List.mem_map] at hu
  obtain ⟨b, _, rfl⟩ := hu
  rfl
theorem bv_get {l : List UInt8} {j : Nat} {u : Value} (h : (bv l)[j]? = some u) : ∃ b, l[j]? = some b ∧ u = .int .u8 (b.toNat : Int) := by
  simp only [bv, List.getElem?_map, Option.map_eq_some_iff] at h
  obtain ⟨b, h, rfl⟩ := h
  exact ⟨b, h, rfl⟩
/-- a slice at A reads as these bytes, which lie in blocks of D -/
def BR (D : Nat → Prop) (w : World) (A : Option Addr) (l : List UInt8) : Prop := ∀ j u, l[j]? = some u → ∃ ad, A = some ad ∧ D ad.block ∧ w.cell? (ad.add j) = some (.int .u8 (u.toNat : Int))
def Any : Nat → Prop := fun _ => True
theorem add_block (a : Addr) (n : Nat) : (a.add n).block = a.block := by unfold Addr.add; split <;> rfl
theorem add0 (g j : Nat) : (⟨g, 0, none⟩ : Addr).add j = ⟨g, j, none⟩ := by unfold Addr.add; split <;> simp_all
theorem add_add (a : Addr) (i j : Nat) : (a.add i).add j = a.add (i + j) := by
  unfold Addr.add
  by_cases hi : i = 0 <;> by_cases hj : j = 0 <;> simp [hi, hj, Nat.add_assoc]
section
variable {D D' S : Nat → Prop} {w w1 : World} {A : Option Addr} {l : List UInt8}
theorem BR.nil (D : Nat → Prop) (w : World) (A : Option Addr) : BR D w A [] := fun j u h => by simp at h
theorem BR.mono (h : BR D w A l) (hd : ∀ k, k < w.heap.size → D k → D' k) : BR D' w A l := fun j u hj => by
  obtain ⟨ad, e, d, c⟩ := h j u hj
  exact ⟨ad, e, hd _ (by have := World.block_lt_of_cell? w _ c; rwa [add_block] at this) d, c⟩
theorem BR.any (h : BR D w A l) : BR Any w A l := h.mono (fun _ _ _ => trivial)
theorem BR.fr (h : BR D w A l) (hf : Fr S w w1) (hn : ∀ k, k < w.heap.size → D k → ¬ S k) : BR D w1 A l := fun j u hj => by
  obtain ⟨ad, e, d, c⟩ := h j u hj
  have hlt : ad.block < w.heap.size := by have := World.block_lt_of_cell? w _ c; rwa [add_block] at this
  refine ⟨ad, e, d, ?_⟩
  rw [World.cell?_of_block (w := w) (by rw [add_block]; exact hf.block _ hlt (hn _ hlt d))]
  exact c
theorem BR.below (h : BR D w A l) (hf : Below w.heap.size w w1) : BR D w1 A l := h.fr (S := No) (Fr.of hf _) (fun _ _ _ q => q)
theorem BR.at_ (h : BR D w A l) (k : Nat) (hk : k < l.length) : ∃ ad, A = some ad ∧ w.cell? (ad.add k) = some (.int .u8 (l[k].toNat : Int)) := by
  obtain ⟨ad, e, _, c⟩ := h k l[k] (List.getElem?_eq_getElem hk)
  exact ⟨ad, e, c⟩
theorem BR.cells (h : BR D w A l) (hl : 0 < l.length) : ∃ ad, A = some ad ∧ ∀ j u, (bv l)[j]? = some u → w.cell? (ad.add j) = some u := by
  obtain ⟨ad, e, _, _⟩ := h 0 l[0] (List.getElem?_eq_getElem hl)
  refine ⟨ad, e, fun j u hj => ?_⟩
  obtain ⟨b, hb, rfl⟩ := bv_get hj
  obtain ⟨ad', e', _, c⟩ := h j b hb
  rw [e] at e'
  cases e'
  exact c
/-- a whole block of bytes -/
theorem BR.block {b t : Nat} {cs : List Value} (h : Bk w b t cs) (hp : ∀ (j : Nat) (u : Value), (bv l)[j]? = some u → cs[j]? = some u) (hd : D b) : BR D w (some ⟨b, 0, none⟩) l := fun j u hj => by
  refine ⟨_, rfl, hd, ?_⟩
  rw [add0, h.cell j]
  exact hp j _ (by simp [bv, hj])
theorem BR.of_block {b t : Nat} (h : Bk w b t (bv l)) (hd : D b) : BR D w (some ⟨b, 0, none⟩) l := BR.block h (fun _ _ q => q) hd
theorem BR.own {base e n : Nat} {c : Nat} (h : w.ownsRow base e 1 (.slice A n c) n (bv l)) (hd : ∀ k, (Value.slice A n c).ownBlock = some k → D k) : BR D w A l := fun j u hj => by
  have hl : l.length = n := by have := h.1; rw [bv_len] at this; omega
  have hj' : j < l.length := (List.getElem?_eq_some_iff.1 hj).1
  obtain ⟨g, cap, hv, _, _⟩ := h.form (by omega)
  have hA : A = some ⟨g, 0, none⟩ := by injection hv
  subst hA
  refine ⟨_, rfl, hd g rfl, ?_⟩
  exact h.cells (g := g) rfl j _ (by simp [bv, hj])
end
/-- the same, in a block of type t -/
def T8 (t : Nat) (H : Nat → Prop) (w : World) : Nat → Prop := fun k => BT w k t ∧ ¬ H k
theorem BR.frT {t : Nat} {H S : Nat → Prop} {w w1 : World} {A : Option Addr} {l : List UInt8} (h : BR (T8 t H w) w A l) (hf : Fr S w w1) (hn : ∀ k, S k → BT w k t → H k) : BR (T8 t H w1) w1 A l := by
  have h1 := h.fr hf (fun k _ d q => d.2 (hn k q d.1))
  intro j u hj
  obtain ⟨ad, e, d, c⟩ := h1 j u hj
  exact ⟨ad, e, ⟨d.1.fr hf (fun q => d.2 (hn _ q d.1)), d.2⟩, c⟩

/-- a slice value of n elements that has a row of its own (rb: its block), or no room at all -/
def Row (w : World) (e size : Nat) (rb : Option Nat) (v : Value) (n : Nat) (xs : List Value) : Prop :=
  (rb = none ∧ n = 0 ∧ xs = [] ∧ ∃ A, v = .slice A 0 0) ∨ (∃ g, rb = some g ∧ v.ownBlock = some g ∧ w.ownsRow 0 e size v n xs)
section
variable {S : Nat → Prop} {w w1 : World} {e size n : Nat} {rb : Option Nat} {v : Value} {xs : List Value}
theorem Row.nil (w : World) (e size : Nat) : Row w e size none (.slice none 0 0) 0 [] := .inl ⟨rfl, rfl, rfl, none, rfl⟩
theorem Row.no (w : World) (e size : Nat) (A : Option Addr) : Row w e size none (.slice A 0 0) 0 [] := .inl ⟨rfl, rfl, rfl, A, rfl⟩
theorem Row.len (h : Row w e size rb v n xs) : xs.length = n * size := by
  rcases h with ⟨_, rfl, rfl, _⟩ | ⟨_, _, _, h⟩
  · simp
  · exact h.1
theorem Row.val (h : Row w e size rb v n xs) : ∃ A c, v = .slice A n c ∧ n ≤ c := by
  rcases h with ⟨_, rfl, rfl, A, rfl⟩ | ⟨g, _, hb, h⟩
  · exact ⟨A, 0, rfl, Nat.le_refl _⟩
  · rcases h.2 with ⟨rfl, _⟩ | ⟨g', cap, cur, rfl, _, _, hc, _⟩
    · simp [Value.ownBlock] at hb
    · exact ⟨_, cap, rfl, hc⟩
theorem Row.max (h : Row w e size rb v n xs) : n ≤ maxLen := by
  rcases h with ⟨_, rfl, _⟩ | ⟨g, _, hb, h⟩
  · exact Nat.zero_le _
  · rcases h.2 with ⟨_, rfl⟩ | ⟨g', cap, cur, rfl, _, _, hc, hm, _⟩
    · exact Nat.zero_le _
    · exact Nat.le_trans hc hm
theorem Row.fr (h : Row w e size rb v n xs) (hf : Fr S w w1) (hn : ∀ k, rb = some k → ¬ S k) : Row w1 e size rb v n xs := by
  rcases h with ⟨h1, h2, h3, h4⟩ | ⟨g, hr, hb, h⟩
  · exact .inl ⟨h1, h2, h3, h4⟩
  · refine .inr ⟨g, hr, hb, h.1, ?_⟩
    rcases h.2 with hq | ⟨g', cap, cur, rfl, h0, hg, rest⟩
    · exact .inl hq
    · have : g' = g := by simpa [Value.ownBlock] using hb
      subst this
      exact .inr ⟨g', cap, cur, rfl, h0, (hf.block g' (lt_of_some hg) (hn _ hr)).trans hg, rest⟩
theorem Row.below (h : Row w e size rb v n xs) (hf : Below w.heap.size w w1) : Row w1 e size rb v n xs := h.fr (S := No) (Fr.of hf _) (fun _ _ q => q)
theorem Row.bt (h : Row w e size rb v n xs) {k : Nat} (hk : rb = some k) : BT w k e := by
  rcases h with ⟨h1, _⟩ | ⟨g, hr, hb, h⟩
  · rw [h1] at hk; cases hk
  · rcases h.2 with ⟨rfl, _⟩ | ⟨g', cap, cur, rfl, h0, hg, _⟩
    · simp [Value.ownBlock] at hb
    · have : g' = g := by simpa [Value.ownBlock] using hb
      subst this
      rw [hr] at hk
      cases hk
      exact ⟨_, _, hg⟩
theorem Row.lt (h : Row w e size rb v n xs) {k : Nat} (hk : rb = some k) : k < w.heap.size := (h.bt hk).lt
/-- where there is an element, its cells -/
theorem Row.at_ (h : Row w e size rb v n xs) (hn : 0 < n) : ∃ g c, rb = some g ∧ v = .slice (some ⟨g, 0, none⟩) n c ∧ n ≤ c ∧ (∀ j u, xs[j]? = some u → w.cell? ⟨g, j, none⟩ = some u) ∧ (∀ j, w.frozen? ⟨g, j, none⟩ = false) := by
  rcases h with ⟨_, rfl, _⟩ | ⟨g, hr, hb, h⟩
  · omega
  · have hc := h.cells hb
    rcases h.2 with ⟨rfl, _⟩ | ⟨g', cap, cur, rfl, h0, hg, hcap, _⟩
    · simp [Value.ownBlock] at hb
    · have : g' = g := by simpa [Value.ownBlock] using hb
      subst this
      exact ⟨g', cap, hr, rfl, hcap, fun j u hj => by rw [← add0]; exact hc j u hj, fun j => by simp [World.frozen?, hg]⟩
/-- a cell of it is written -/
theorem Row.set (h : Row w e size rb v n xs) {g : Nat} (hg : rb = some g) (i : Nat) (u : Value) (hi : i < xs.length) : Row (w.setCell ⟨g, i, none⟩ u) e size rb v n (xs.set i u) := by
  rcases h with ⟨h1, _⟩ | ⟨g', hr, hb, h⟩
  · rw [h1] at hg; cases hg
  · rw [hr] at hg
    cases hg
    refine .inr ⟨g, hr, hb, ?_⟩
    rcases h.2 with ⟨rfl, _⟩ | ⟨g', cap, cur, rfl, _⟩
    · simp [Value.ownBlock] at hb
    · have : g' = g := by simpa [Value.ownBlock] using hb
      subst this
      exact (h.stored i u).1
/-- its block whole, what is spare behind it -/
theorem Row.open_ {g c : Nat} (h : Row w e size (some g) (.slice (some ⟨g, 0, none⟩) n c) n xs) : ∃ sp, Bk w g e (xs ++ sp) ∧ sp.length = (c - n) * size ∧ n ≤ c ∧ c ≤ maxLen := by
  rcases h with ⟨h1, _⟩ | ⟨g', hr, hb, h⟩
  · cases h1
  · cases hr
    rcases h.2 with ⟨hv, _⟩ | ⟨g', cap, cur, hv, h0, hg, hc, hm, hs, ht⟩
    · cases hv
    · injection hv with e1 e2 e3
      injection e1 with e1
      injection e1 with e1
      subst e1 e3
      refine ⟨cur.toList.drop (n * size), ?_, by rw [List.length_drop, Array.length_toList, hs, Nat.sub_mul], hc, hm⟩
      rw [Bk, ← ht, List.take_append_drop]
      exact hg
theorem Row.shut {g c : Nat} {sp : List Value} (h : Bk w g e (xs ++ sp)) (hx : xs.length = n * size) (hs : sp.length = (c - n) * size) (hn : n ≤ c) (hm : c ≤ maxLen) : Row w e size (some g) (.slice (some ⟨g, 0, none⟩) n c) n xs :=
  .inr ⟨g, rfl, rfl, hx, .inr ⟨g, c, (xs ++ sp).toArray, rfl, Nat.zero_le _, h, hn, hm, by
    rw [List.size_toArray, List.length_append, hx, hs, ← Nat.add_mul, Nat.add_sub_cancel' hn], by
    rw [List.toList_toArray, ← hx, List.take_left]⟩⟩
/-- a whole block that a make or a literal made -/
theorem Row.made {w : World} {b : Nat} {cs : Array Value} (h : w.heap[b]? = some (.cells cs e (0, 0))) (hs : cs.size = n * size) (hm : n ≤ maxLen) : Row w e size (some b) (.slice (some ⟨b, 0, none⟩) n n) n cs.toList :=
  .inr ⟨b, rfl, rfl, by rw [Array.length_toList, hs], .inr ⟨b, n, cs, rfl, Nat.zero_le _, h, Nat.le_refl _, hm, hs, by rw [List.take_of_length_le (by rw [Array.length_toList, hs]; exact Nat.le_refl _)]⟩⟩
theorem Row.of_own {base : Nat} {c : Nat} {g : Nat} (h : w.ownsRow base e size (.slice (some ⟨g, 0, none⟩) n c) n xs) : Row w e size (some g) (.slice (some ⟨g, 0, none⟩) n c) n xs :=
  .inr ⟨g, rfl, rfl, h.1, by
    rcases h.2 with hq | ⟨g', cap, cur, hv, _, rest⟩
    · exact .inl hq
    · exact .inr ⟨g', cap, cur, hv, Nat.zero_le _, rest⟩⟩
theorem own_any {base : Nat} (h : w.ownsRow base e size v n xs) : Row w e size v.ownBlock v n xs := by
  rcases h.2 with ⟨rfl, rfl⟩ | ⟨g', cap, cur, rfl, _, rest⟩
  · have := h.1
    exact .inl ⟨rfl, rfl, List.eq_nil_of_length_eq_zero (by omega), none, rfl⟩
  · exact Row.of_own h
end

section
variable {P : Program} (w : World)
theorem run_append_row (t ty e : TypeId) (z : Value) (size bytes : Nat) (ht : P.underlying t = some (.slice e)) (hinfo : (P.info? e).map (fun i => (i.zero, i.size, i.bytes)) = some (some z, size, bytes)) (hzs : z.cells.size = size) (hsz : 0 < size)
    (rb : Option Nat) (v : Value) (n : Nat) (xs : List Value) (hr : Row w e size rb v n xs)
    (A : Option Addr) (m c : Nat) (news : List Value) (hl : news.length = m * size) (hnews : 0 < m → ∃ ad, A = some ad ∧ ∀ j u, news[j]? = some u → w.cell? (ad.add j) = some u) (h1 : ∀ u ∈ news, u.oneCell' = true)
    (h63 : n + m ≤ maxLen) (hbytes : (n + m) * bytes ≤ 140737488355328) :
    ∃ v' w' rb', (Builtin.append_ #[t, t] ty #[v, .slice A m c]).run P w = .ok v' w' ∧ Row w' e size rb' v' (n + m) (xs ++ news) ∧ Fr (fun k => rb = some k) w w' ∧ (rb' = rb ∨ ∃ k, rb' = some k ∧ w.heap.size ≤ k) := by
  obtain ⟨i, hi, hz⟩ := Option.map_eq_some_iff.1 hinfo
  simp only [Prod.mk.injEq] at hz
  obtain ⟨hz0, hz1, hz2⟩ := hz
  rcases Nat.eq_zero_or_pos m with rfl | hm
  · have hn0 : news = [] := List.eq_nil_of_length_eq_zero (by omega)
    subst hn0
    refine ⟨v, w, rb, ?_, by simpa using hr, Fr.refl _ _, .inl rfl⟩
    obtain ⟨A', c', rfl, hc'⟩ := hr.val
    rcases hr with ⟨_, rfl, _, _, hv⟩ | ⟨g, _, hb, h⟩
    · rcases A with _ | a
      · cases A' <;> simp [Builtin.append_, run_underlying ht, sizeOf, typeInfo, hi, Builtin.lenOf, Builtin.firstCells, storeCells]
      · have hf := run_firstCells_some (P := P) w i.size 0 a 0 c [] (by simp) (fun j u hj => by simp at hj)
        cases A' <;> simp [Builtin.append_, run_underlying ht, sizeOf, typeInfo, hi, Builtin.lenOf, hf, storeCells]
    · rcases h.2 with ⟨hv, _⟩ | ⟨g', cap, cur, hv, _⟩
      · injection hv with e1 e2 e3
        subst e1
        simp [Value.ownBlock] at hb
      · injection hv with e1 e2 e3
        subst e1
        rcases A with _ | a
        · simp [Builtin.append_, run_underlying ht, sizeOf, typeInfo, hi, Builtin.lenOf, Builtin.firstCells, hc', storeCells]
        · have hf := run_firstCells_some (P := P) w i.size 0 a 0 c [] (by simp) (fun j u hj => by simp at hj)
          simp [Builtin.append_, run_underlying ht, sizeOf, typeInfo, hi, Builtin.lenOf, hf, hc', storeCells]
  · obtain ⟨ad, rfl, hcell⟩ := hnews hm
    rcases hr with ⟨rfl, rfl, rfl, A', rfl⟩ | ⟨g, rfl, hb, h⟩
    · rcases A' with _ | a'
      · obtain ⟨v', w', hrun, h2, h3, _, h5⟩ := run_append_own_at (P := P) w 0 t ty e i z size bytes ht hi hz0 hz1 hz2 hzs hsz (.slice none 0 0) 0 [] (World.ownsRow_nil w 0 e size) ad m c news hl hcell h1 h63 hbytes (Nat.zero_le _)
        refine ⟨v', w', v'.ownBlock, hrun, by simpa using own_any h2, Fr.grown h3 (fun k hk => by simp [Value.ownBlock] at hk), ?_⟩
        rcases h5 with h5 | h5
        · exact .inl (by rw [h5]; rfl)
        · exact .inr ⟨_, h5, Nat.le_refl _⟩
      · obtain ⟨v', w', hrun, h2, h3⟩ := run_append_arg_grows (P := P) w t ty e i z size bytes ht hi hz0 hz1 hz2 hzs hsz a' 0 0 [] (by simp) (fun j u hj => by simp at hj) ad m c news hl hcell (by omega) h63 hbytes
        refine ⟨v', w', v'.ownBlock, hrun, by simpa using own_any h2, Fr.grown h3 (fun k hk => by cases hk), ?_⟩
        rcases h2.2 with ⟨rfl, h0⟩ | ⟨g', cap, cur, rfl, hg, _⟩
        · omega
        · exact .inr ⟨g', rfl, hg⟩
    · obtain ⟨v', w', hrun, h2, h3, _, h5⟩ := run_append_own_at (P := P) w 0 t ty e i z size bytes ht hi hz0 hz1 hz2 hzs hsz v n xs h ad m c news hl hcell h1 h63 hbytes (Nat.zero_le _)
      refine ⟨v', w', v'.ownBlock, hrun, own_any h2, Fr.grown h3 (fun k hk => by rw [hb] at hk; exact hk), ?_⟩
      rcases h5 with h5 | h5
      · exact .inl (by rw [h5]; exact hb)
      · exact .inr ⟨_, h5, Nat.le_refl _⟩

theorem wp_append_row {o : Oper} {a : Act} {K : Act → World → Prop} {Q : Exit → Act → World → Prop} (s x : Operand) (t : TypeId)
    (ho : o.op = .call { callee := .builtin .append, args := #[s, x], argTypes := #[t, t] })
    (e : TypeId) (z : Value) (size bytes : Nat) (ht : P.underlying t = some (.slice e)) (hinfo : (P.info? e).map (fun i => (i.zero, i.size, i.bytes)) = some (some z, size, bytes)) (hzs : z.cells.size = size) (hsz : 0 < size)
    (rb : Option Nat) (v : Value) (n : Nat) (xs : List Value) (hs : a.eval s = v) (hr : Row w e size rb v n xs)
    (A : Option Addr) (m c : Nat) (news : List Value) (hx : a.eval x = .slice A m c) (hl : news.length = m * size) (hnews : 0 < m → ∃ ad, A = some ad ∧ ∀ j u, news[j]? = some u → w.cell? (ad.add j) = some u) (h1 : ∀ u ∈ news, u.oneCell' = true)
    (h63 : n + m ≤ maxLen) (hbytes : (n + m) * bytes ≤ 140737488355328)
    (h : ∀ A' c' w' rb', Row w' e size rb' (.slice A' (n + m) c') (n + m) (xs ++ news) → Fr (fun k => rb = some k) w w' → (rb' = rb ∨ ∃ k, rb' = some k ∧ w.heap.size ≤ k) → K (a.put o.dst (.slice A' (n + m) c')) w') : o.wp P a w K Q := by
  obtain ⟨v', w', rb', hrun, h2, h3, h4⟩ := run_append_row (P := P) w t o.type e z size bytes ht hinfo hzs hsz rb v n xs hr A m c news hl hnews h1 h63 hbytes
  unfold Oper.wp execOp
  simp only [ho, resolve, invoke, builtin, Sem.run_bind, Sem.run_pure, Result.andThen_ok, List.map_toArray, List.map_cons, List.map_nil, hs, hx, hrun]
  obtain ⟨A', c', rfl, _⟩ := h2.val
  exact h A' c' w' rb' h2 h3 h4
/-- append(s, x...): behind 'at_builtin' -/
theorem wl_append {ops : Array Oper} {rest : List Oper} {o : Oper} {a : Act} {Q : Exit → Act → World → Prop} (hgd : o.guard = none) (s x : Operand) (t : TypeId)
    (ho : o.op = .call { callee := .builtin .append, args := #[s, x], argTypes := #[t, t] })
    (e : TypeId) (z : Value) (size bytes : Nat) (ht : P.underlying t = some (.slice e)) (hinfo : (P.info? e).map (fun i => (i.zero, i.size, i.bytes)) = some (some z, size, bytes)) (hzs : z.cells.size = size) (hsz : 0 < size)
    (rb : Option Nat) (v : Value) (n : Nat) (xs : List Value) (hs : a.eval s = v) (hr : Row w e size rb v n xs)
    (A : Option Addr) (m c : Nat) (news : List Value) (hx : a.eval x = .slice A m c) (hl : news.length = m * size) (hnews : 0 < m → ∃ ad, A = some ad ∧ ∀ j u, news[j]? = some u → w.cell? (ad.add j) = some u) (h1 : ∀ u ∈ news, u.oneCell' = true)
    (h63 : n + m ≤ maxLen) (hbytes : (n + m) * bytes ≤ 140737488355328)
    (h : ∀ A' c' w' rb', Row w' e size rb' (.slice A' (n + m) c') (n + m) (xs ++ news) → Fr (fun k => rb = some k) w w' → (rb' = rb ∨ ∃ k, rb' = some k ∧ w.heap.size ≤ k) → wpList P ops Q rest (a.put o.dst (.slice A' (n + m) c')) w') : wpList P ops Q (o :: rest) a w :=
  wpList_plain hgd fun _ hK => wp_append_row w s x t ho e z size bytes ht hinfo hzs hsz rb v n xs hs hr A m c news hx hl hnews h1 h63 hbytes fun A' c' w' rb' h2 h3 h4 => hK _ _ (h A' c' w' rb' h2 h3 h4)
/-- the same as a step of a region that draws its order -/
theorem st_append {ops : Array Oper} {o : Oper} {a : Act} {K : Act → World → Prop} {Q : Exit → Act → World → Prop} {E : Prop} (hgd : o.guard = none) (s x : Operand) (t : TypeId)
    (ho : o.op = .call { callee := .builtin .append, args := #[s, x], argTypes := #[t, t] })
    (e : TypeId) (z : Value) (size bytes : Nat) (ht : P.underlying t = some (.slice e)) (hinfo : (P.info? e).map (fun i => (i.zero, i.size, i.bytes)) = some (some z, size, bytes)) (hzs : z.cells.size = size) (hsz : 0 < size)
    (rb : Option Nat) (v : Value) (n : Nat) (xs : List Value) (hs : a.eval s = v) (hr : Row w e size rb v n xs)
    (A : Option Addr) (m c : Nat) (news : List Value) (hx : a.eval x = .slice A m c) (hl : news.length = m * size) (hnews : 0 < m → ∃ ad, A = some ad ∧ ∀ j u, news[j]? = some u → w.cell? (ad.add j) = some u) (h1 : ∀ u ∈ news, u.oneCell' = true)
    (h63 : n + m ≤ maxLen) (hbytes : (n + m) * bytes ≤ 140737488355328)
    (h : ∀ A' c' w' rb', Row w' e size rb' (.slice A' (n + m) c') (n + m) (xs ++ news) → Fr (fun k => rb = some k) w w' → (rb' = rb ∨ ∃ k, rb' = some k ∧ w.heap.size ≤ k) → K (a.put o.dst (.slice A' (n + m) c')) w') :
    if Region.wanted o (yielded ops a.tmps) = true then Oper.wp P o a w K Q else E := by
  have hw : Region.wanted o (yielded ops a.tmps) = true := by simp [Region.wanted, hgd]
  rw [if_pos hw]
  exact wp_append_row w s x t ho e z size bytes ht hinfo hzs hsz rb v n xs hs hr A m c news hx hl hnews h1 h63 hbytes h
/-- append(s[:a], x...) where there is room: s's block is known whole -/
theorem run_append_in (t ty e : TypeId) (z : Value) (size bytes : Nat) (ht : P.underlying t = some (.slice e)) (hinfo : (P.info? e).map (fun i => (i.zero, i.size, i.bytes)) = some (some z, size, bytes))
    (g a c : Nat) (cur : List Value) (hg : Bk w g e cur) (A : Option Addr) (m c2 : Nat) (news : List Value) (hl : news.length = m * size) (hnews : 0 < m → ∃ ad, A = some ad ∧ ∀ j u, news[j]? = some u → w.cell? (ad.add j) = some u) (h1 : ∀ u ∈ news, u.oneCell' = true)
    (hroom : a + m ≤ c) (hfit : a * size + news.length ≤ cur.length) :
    ∃ w', (Builtin.append_ #[t, t] ty #[.slice (some ⟨g, 0, none⟩) a c, .slice A m c2]).run P w = .ok (.slice (some ⟨g, 0, none⟩) (a + m) c) w' ∧ Bk w' g e (cur.take (a * size) ++ news ++ cur.drop (a * size + news.length)) ∧ Fr (fun k => k = g) w w' := by
  obtain ⟨i, hi, hz⟩ := Option.map_eq_some_iff.1 hinfo
  simp only [Prod.mk.injEq] at hz
  obtain ⟨hz0, hz1, hz2⟩ := hz
  subst hz1
  rcases Nat.eq_zero_or_pos m with rfl | hm
  · have hn0 : news = [] := List.eq_nil_of_length_eq_zero (by omega)
    subst hn0
    refine ⟨w, ?_, by simpa using hg, Fr.refl _ _⟩
    have hac : a ≤ c := by omega
    rcases A with _ | ad
    · simp [Builtin.append_, run_underlying ht, sizeOf, typeInfo, hi, Builtin.lenOf, Builtin.firstCells, hac, storeCells]
    · have hf := run_firstCells_some (P := P) w i.size 0 ad 0 c2 [] (by simp) (fun j u hj => by simp at hj)
      simp [Builtin.append_, run_underlying ht, sizeOf, typeInfo, hi, Builtin.lenOf, hf, hac, storeCells]
  · obtain ⟨ad, rfl, hcell⟩ := hnews hm
    have hrun := run_append_room (P := P) w t ty e i ht hi g a c cur.toArray hg ad m c2 news hl hcell h1 hroom (by simpa using hfit)
    exact ⟨_, hrun, setRow_heap w g _ _ e _ hg, ⟨rfl, rfl, rfl, by simp [World.setRow], fun k hk hne => setRow_other w g k _ hne⟩⟩
theorem wl_append_in {ops : Array Oper} {rest : List Oper} {o : Oper} {a : Act} {Q : Exit → Act → World → Prop} (hgd : o.guard = none) (s x : Operand) (t : TypeId)
    (ho : o.op = .call { callee := .builtin .append, args := #[s, x], argTypes := #[t, t] })
    (e : TypeId) (z : Value) (size bytes : Nat) (ht : P.underlying t = some (.slice e)) (hinfo : (P.info? e).map (fun i => (i.zero, i.size, i.bytes)) = some (some z, size, bytes))
    (g b c : Nat) (hs : a.eval s = .slice (some ⟨g, 0, none⟩) b c) (cur : List Value) (hg : Bk w g e cur) (A : Option Addr) (m c2 : Nat) (hx : a.eval x = .slice A m c2) (news : List Value) (hl : news.length = m * size)
    (hnews : 0 < m → ∃ ad, A = some ad ∧ ∀ j u, news[j]? = some u → w.cell? (ad.add j) = some u) (h1 : ∀ u ∈ news, u.oneCell' = true) (q : Nat) (hq : b + m = q)
    (hroom : b + m ≤ c) (hfit : b * size + news.length ≤ cur.length)
    (h : ∀ w', Bk w' g e (cur.take (b * size) ++ news ++ cur.drop (b * size + news.length)) → Fr (fun k => k = g) w w' → wpList P ops Q rest (a.put o.dst (.slice (some ⟨g, 0, none⟩) q c)) w') : wpList P ops Q (o :: rest) a w := by
  refine wpList_plain hgd fun K hK => ?_
  subst hq
  obtain ⟨w', hrun, h2, h3⟩ := run_append_in (P := P) w t o.type e z size bytes ht hinfo g b c cur hg A m c2 news hl hnews h1 hroom hfit
  unfold Oper.wp execOp
  simp only [ho, resolve, invoke, builtin, Sem.run_bind, Sem.run_pure, Result.andThen_ok, List.map_toArray, List.map_cons, List.map_nil, hs, hx, hrun]
  exact hK _ _ (h w' h2 h3)
theorem st_append_in {ops : Array Oper} {o : Oper} {a : Act} {K : Act → World → Prop} {Q : Exit → Act → World → Prop} {E : Prop} (hgd : o.guard = none) (s x : Operand) (t : TypeId)
    (ho : o.op = .call { callee := .builtin .append, args := #[s, x], argTypes := #[t, t] })
    (e : TypeId) (z : Value) (size bytes : Nat) (ht : P.underlying t = some (.slice e)) (hinfo : (P.info? e).map (fun i => (i.zero, i.size, i.bytes)) = some (some z, size, bytes))
    (g b c : Nat) (hs : a.eval s = .slice (some ⟨g, 0, none⟩) b c) (cur : List Value) (hg : Bk w g e cur) (A : Option Addr) (m c2 : Nat) (hx : a.eval x = .slice A m c2) (news : List Value) (hl : news.length = m * size)
    (hnews : 0 < m → ∃ ad, A = some ad ∧ ∀ j u, news[j]? = some u → w.cell? (ad.add j) = some u) (h1 : ∀ u ∈ news, u.oneCell' = true) (q : Nat) (hq : b + m = q)
    (hroom : b + m ≤ c) (hfit : b * size + news.length ≤ cur.length)
    (h : ∀ w', Bk w' g e (cur.take (b * size) ++ news ++ cur.drop (b * size + news.length)) → Fr (fun k => k = g) w w' → K (a.put o.dst (.slice (some ⟨g, 0, none⟩) q c)) w') :
    if Region.wanted o (yielded ops a.tmps) = true then Oper.wp P o a w K Q else E := by
  have hw : Region.wanted o (yielded ops a.tmps) = true := by simp [Region.wanted, hgd]
  rw [if_pos hw]
  subst hq
  obtain ⟨w', hrun, h2, h3⟩ := run_append_in (P := P) w t o.type e z size bytes ht hinfo g b c cur hg A m c2 news hl hnews h1 hroom hfit
  unfold Oper.wp execOp
  simp only [ho, resolve, invoke, builtin, Sem.run_bind, Sem.run_pure, Result.andThen_ok, List.map_toArray, List.map_cons, List.map_nil, hs, hx, hrun]
  exact h w' h2 h3
/-- copy(d, s), d the whole of a block (from its head on) -/
theorem wl_copy {ops : Array Oper} {rest : List Oper} {o : Oper} {a : Act} {Q : Exit → Act → World → Prop} (hgd : o.guard = none) (d s : Operand) (dT sT : TypeId)
    (ho : o.op = .call { callee := .builtin .copy, args := #[d, s], argTypes := #[dT, sT] }) (elem : TypeId) (hu : P.underlying dT = some (.slice elem)) (hsz : (P.info? elem).map (·.size) = some 1)
    (g off dLen dCap : Nat) (sp : Option Addr) (sLen sCap : Nat) (hd : a.eval d = .slice (some ⟨g, off, none⟩) dLen dCap) (hs : a.eval s = .slice sp sLen sCap)
    (t : Nat) (cur : List Value) (hg : Bk w g t cur) (cs : List Value) (hn : cs.length = Nat.min sLen dLen)
    (hpos : 0 < cs.length → ∃ ad, sp = some ad ∧ ∀ j v, cs[j]? = some v → w.cell? (ad.add j) = some v)
    (hfit : off + cs.length ≤ cur.length) (h1 : ∀ v ∈ cs, v.oneCell' = true)
    (h : ∀ w', Bk w' g t (splice cur off cs) → Fr (fun k => k = g) w w' → wpList P ops Q rest (a.put o.dst (goInt cs.length)) w') : wpList P ops Q (o :: rest) a w := by
  by_cases h0 : cs.length = 0
  · obtain rfl : cs = [] := List.eq_nil_of_length_eq_zero h0
    refine wpList_copy_nothing hgd d s dT sT ho elem hu hsz _ sp dLen dCap sLen sCap hd hs (by simpa using hn.symm) ?_
    exact h w (show _ = _ by rw [Bk] at hg; simpa [splice] using hg) (Fr.refl _ _)
  · obtain ⟨ad, rfl, hsrc⟩ := hpos (by omega)
    refine wpList_copy_own hgd d s dT sT ho elem hu hsz g off dLen dCap ad sLen sCap hd hs cur.toArray t hg cs hn hsrc (by simpa using hfit) h1 ?_
    exact h _ (show _ = _ by simpa [splice] using setRow_heap w g _ _ t _ hg) ⟨rfl, rfl, rfl, by simp [World.setRow], fun k hk hne => setRow_other w g k _ hne⟩
/-- make([]T, n), T of one cell -/
theorem wl_make {ops : Array Oper} {rest : List Oper} {o : Oper} {a : Act} {Q : Exit → Act → World → Prop} (hgd : o.guard = none) (l c : Operand) (ty : TypeId) (ho : o.op = Op.makeSlice ty l c)
    (e : TypeId) (z : Value) (bytes : Nat) (hu : P.underlying ty = some (.slice e)) (hinfo : (P.info? e).map (fun i => (i.zero, i.size, i.bytes)) = some (some z, 1, bytes)) (hzc : z.cells = #[z])
    (L : Int) (n : Nat) (hl : a.eval l = .int .i64 L) (hc : a.eval c = .int .i64 L) (hL : L = (n : Int)) (hb : bytes * n ≤ 281474976710656) (hm : n ≤ maxLen)
    (h : ∀ w', Bk w' w.heap.size e (List.replicate n z) → w.heap.size < w'.heap.size → Fr No w w' → wpList P ops Q rest (a.put o.dst (.slice (some ⟨w.heap.size, 0, none⟩) n n)) w') : wpList P ops Q (o :: rest) a w := by
  obtain ⟨i, hi, hz⟩ := Option.map_eq_some_iff.1 hinfo
  simp only [Prod.mk.injEq] at hz
  obtain ⟨hz0, hz1, hz2⟩ := hz
  refine wpList_make_full w hgd l c ty ho w.heap.size e i z 1 hu hi hz0 hz1 .i64 .i64 L L n hl hc hL hL (by rw [hz2]; exact hb) hm (Nat.le_refl _) ?_
  intro w' hown hg
  have hB : Bk w' w.heap.size e (List.replicate n z) := by
    have hown2 := hown.2
    generalize hgs : w.heap.size = gs at hown2 ⊢
    rcases hown2 with ⟨h0, _⟩ | ⟨g', cap', cur, he, _, hh, _, _, hsz, htk⟩
    · cases h0
    · injection he with e1 e2 e3
      injection e1 with e1
      injection e1 with e1
      subst e1 e3
      rw [Bk, hh]
      congr 2
      apply Array.toList_inj.1
      rw [List.take_of_length_le (by rw [Array.length_toList, hsz]; exact Nat.le_refl _)] at htk
      rw [htk]
      rw [hzc, Nat.mul_one]
      apply List.ext_getElem
      · simp [size_madeCells]
      · intro i h1 h2
        simp [madeCells, Nat.mod_one]
  exact h w' hB hB.lt (Fr.grown hg (fun k hk => by simp at hk))
end
end Go.Proofs.Ytobnehbcnlhchaa.Mem
