/- Words: how a word is written, in plain terms and walked. Conditions: none. -/
import Derived.Test.YtdhlbdllidfenaaDoorWdG
import Derived.Shelf.Bytes.SlSmallAll
namespace Go.Proofs.YtdhlbdllidfenaaDoor.Wd
open Go.RowKit Go.Proofs.YtdhlbdllidfenaaDoor.Mem
set_option linter.unusedVariables false
set_option linter.unusedSimpArgs false
def hexD (n : Nat) : UInt8 := [48, 49, 50, 51, 52, 53, 54, 55, 56, 57, 97, 98, 99, 100, 101, 102].getD n 0
def wrB (c : UInt8) : List UInt8 := if c.toNat = 34 ∨ c.toNat = 92 then [92, c] else if c.toNat < 32 ∨ 126 < c.toNat then [92, 120, hexD (c.toNat / 16), hexD (c.toNat % 16)] else [c]
def wrW (l : List UInt8) : List UInt8 := if isBare l = true then l else 34 :: l.flatMap wrB ++ [34]
theorem wrB_len (c : UInt8) : (wrB c).length ≤ 4 := by
  unfold wrB
  split
  · simp
  · split <;> simp
theorem flat_len (l : List UInt8) : (l.flatMap wrB).length ≤ 4 * l.length := by
  induction l with
  | nil => simp
  | cons x l ih => rw [List.flatMap_cons, List.length_append, List.length_cons]; have := wrB_len x; omega
theorem flat_more {l : List UInt8} {i : Nat} (h : i < l.length) : (l.take (i + 1)).flatMap wrB = (l.take i).flatMap wrB ++ wrB l[i] := by
  rw [List.take_succ_eq_append_getElem h, List.flatMap_append]
  congr 1
  simp
theorem wrW_len (l : List UInt8) : (wrW l).length ≤ 4 * l.length + 2 := by
  unfold wrW
  split
  · omega
  · have := flat_len l
    rw [List.length_append, List.length_cons, List.length_singleton]
    omega
theorem hex_at (x : Nat) (h : x < (⟨#[48, 49, 50, 51, 52, 53, 54, 55, 56, 57, 97, 98, 99, 100, 101, 102]⟩ : ByteArray).size) : (⟨#[48, 49, 50, 51, 52, 53, 54, 55, 56, 57, 97, 98, 99, 100, 101, 102]⟩ : ByteArray)[x]'h = hexD x := by
  show (#[48, 49, 50, 51, 52, 53, 54, 55, 56, 57, 97, 98, 99, 100, 101, 102] : Array UInt8)[x]'h = _
  unfold hexD
  rw [List.getD_eq_getElem?_getD, List.getElem?_eq_getElem h]
  rfl
theorem and15 (x : Nat) (h : x ≤ 255) : bits BinOp.and IntKind.u8 (x : Int) 15 = ((x % 16 : Nat) : Int) := by
  show IntKind.u8.wrap ((BitVec.ofInt 8 (x : Int) &&& BitVec.ofInt 8 15).toNat : Int) = _
  rw [BitVec.ofInt_natCast, BitVec.toNat_and, BitVec.toNat_ofNat, Nat.mod_eq_of_lt (by omega), show (BitVec.ofInt 8 15).toNat = 2 ^ 4 - 1 from rfl, Nat.and_two_pow_sub_one_eq_mod]
  show ((x % 16 : Nat) : Int) % 256 = _
  omega
theorem infoU8 : (Tryd.prog.info? 5).map (fun i => (i.zero, i.size, i.bytes)) = some (some (.int .u8 0), 1, 1) := by kernel_rfl
theorem nums (l : List UInt8) : strOfNums (l.map fun b => (b.toNat : Int)) = ⟨l.toArray⟩ := by
  unfold strOfNums
  rw [List.map_map]
  have : ((fun n : Int => UInt8.ofNat n.toNat) ∘ fun b : UInt8 => (b.toNat : Int)) = id := by
    funext b
    show UInt8.ofNat ((b.toNat : Int)).toNat = b
    rw [Int.toNat_natCast, UInt8.ofNat_toNat]
  rw [this, List.map_id]
theorem conv (A : Option Addr) (n c : Nat) (l : List UInt8) (w : World) (hl : l.length = n) (hA : BR Any w A l) : (convert 54 9 (.slice A n c)).run Tryd.prog w = .ok (.string ⟨l.toArray⟩) w := by
  rcases Nat.eq_zero_or_pos n with rfl | hn
  · obtain rfl : l = [] := List.eq_nil_of_length_eq_zero hl
    exact run_convert_bytes_zero w 54 5 Tryd.underlying54 Tryd.underlying5 A c 9 Tryd.underlying9
  · obtain ⟨ad, rfl, h⟩ := hA.cells (by omega)
    obtain ⟨b, off, sp⟩ := ad
    have h0 := h 0 _ (List.getElem?_eq_getElem (by rw [bv_len]; omega))
    obtain rfl : sp = none := by
      cases sp with
      | none => rfl
      | some s =>
        exfalso
        rw [show (⟨b, off, some s⟩ : Addr).add 0 = ⟨b, off, some s⟩ from rfl] at h0
        unfold World.cell? at h0
        split at h0
        · simp at h0
        · cases h0
    rw [← nums]
    refine run_convert_bytes_arg w 54 5 Tryd.underlying54 Tryd.underlying5 b off n c _ (by simpa using hl) (fun i hi => ?_) 9 Tryd.underlying9
    have hil : i < l.length := by omega
    have := h i (.int .u8 (l[i].toNat : Int)) (by unfold bv; rw [List.getElem?_map, List.getElem?_eq_getElem hil]; rfl)
    rw [show (⟨b, off, none⟩ : Addr).add i = ⟨b, off + i, none⟩ by unfold Addr.add; split <;> simp_all] at this
    rw [this, List.getD_eq_getElem?_getD, List.getElem?_map, List.getElem?_eq_getElem hil]
    rfl
/-- a list of bytes that grows, in memory of its own -/
def Buf (w0 w : World) (rb : Option Nat) (v : Value) (l : List UInt8) : Prop := Row w 5 1 rb v l.length (bv l) ∧ Fr No w0 w ∧ ∀ k, rb = some k → w0.heap.size ≤ k
theorem Row.br {D : Nat → Prop} {w : World} {b : Option Nat} {A : Option Addr} {c n : Nat} {l : List UInt8} (h : Row w 5 1 b (.slice A n c) n (bv l)) (hd : ∀ k, b = some k → D k) : BR D w A l := fun j u hj => by
  have hjl : j < l.length := (List.getElem?_eq_some_iff.1 hj).1
  have hn : l.length = n := by have := h.len; rw [bv_len] at this; omega
  obtain ⟨g, c', hg, hv, _, hc, _⟩ := h.at_ (by omega)
  injection hv with e1 e2 e3
  subst e1
  refine ⟨⟨g, 0, none⟩, rfl, hd g hg, ?_⟩
  rw [add0, hc j _ (by unfold bv; rw [List.getElem?_map, hj]; rfl)]
theorem newCells (w : World) (cs : List Value) : ∃ ad, some (⟨w.heap.size, 0, none⟩ : Addr) = some ad ∧ ∀ (j : Nat) (u : Value), cs[j]? = some u → (w.alloc (.cells cs.toArray 5 (0, 0))).cell? (ad.add j) = some u :=
  ⟨_, rfl, fun j u hj => by rw [add0]; exact ((Bk.new w 5 cs).cell j).trans hj⟩
theorem Buf.quiet {w0 w w1 : World} {rb : Option Nat} {v : Value} {l : List UInt8} (h : Buf w0 w rb v l) (hf : Fr No w w1) : Buf w0 w1 rb v l := ⟨h.1.fr hf (fun _ _ q => q), h.2.1.then_ hf, h.2.2⟩
theorem Buf.grow {w0 w w1 : World} {rb rb1 : Option Nat} {v v1 : Value} {l k : List UInt8} {n m : Nat} (h : Buf w0 w rb v l) (hr : Row w1 5 1 rb1 v1 (n + m) (bv l ++ bv k)) (hn : l.length = n) (hm : k.length = m) (hf : Fr (fun q => rb = some q) w w1) (hnb : rb1 = rb ∨ ∃ q, rb1 = some q ∧ w.heap.size ≤ q) : Buf w0 w1 rb1 v1 (l ++ k) := by
  refine ⟨?_, h.2.1.trans hf (fun q hq e => by have := h.2.2 q e; omega), fun q hq => ?_⟩
  · rw [List.length_append, hn, hm, bv_append]; exact hr
  · rcases hnb with e | ⟨q', e, hq'⟩
    · exact h.2.2 q (e ▸ hq)
    · rw [e] at hq; cases hq; have := h.2.1.size; omega
theorem Buf.conv {w0 w : World} {rb : Option Nat} {A : Option Addr} {n c : Nat} {l : List UInt8} (h : Buf w0 w rb (.slice A n c) l) (hn : l.length = n) : (convert 54 9 (.slice A n c)).run Tryd.prog w = .ok (.string ⟨l.toArray⟩) w := by
  obtain ⟨h1, h2, h3⟩ := h
  rw [hn] at h1
  exact Wd.conv A n c l w hn (Row.br (D := Any) h1 (fun _ _ => trivial))
end Go.Proofs.YtdhlbdllidfenaaDoor.Wd
