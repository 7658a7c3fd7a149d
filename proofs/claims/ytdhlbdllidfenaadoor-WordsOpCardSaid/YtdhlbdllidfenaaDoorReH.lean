/- Words: copy into a list of texts. Conditions: none. -/
import Derived.Test.YtdhlbdllidfenaaDoorReG
namespace Go.Proofs.YtdhlbdllidfenaaDoor.Wd
open Go.RowKit Go.Proofs.YtdhlbdllidfenaaDoor.Mem
open Go.Proofs.YtdhlbdllidfenaaDoor.Nu (numL numE wNumber rNumber Vs num_dec num_is)
set_option linter.unusedVariables false
set_option linter.unusedSimpArgs false
/-- a list into which another was copied -/
def laidOver (l l2 : List (List UInt8)) : List (List UInt8) := l2.take l.length ++ l.drop l2.length
theorem over_len (l l2 : List (List UInt8)) : (laidOver l l2).length = l.length := by
  unfold laidOver
  rw [List.length_append, List.length_take, List.length_drop]
  omega
theorem over_mem {l l2 : List (List UInt8)} {x : List UInt8} (h : x ∈ laidOver l l2) : x ∈ l ∨ x ∈ l2 := by
  rcases List.mem_append.1 h with h | h
  · exact .inr (List.mem_of_mem_take h)
  · exact .inl (List.mem_of_mem_drop h)
theorem over_same {l l2 : List (List UInt8)} (h : l2.length = l.length) : laidOver l l2 = l2 := by
  unfold laidOver
  rw [List.take_of_length_le (by omega), List.drop_of_length_le (by omega), List.append_nil]
theorem wl_copy_row {w : World} {ops : Array Oper} {rest : List Oper} {o : Oper} {a : Act} {Q : Exit → Act → World → Prop} (hgd : o.guard = none) (d s : Operand) (ho : o.op = .call { callee := .builtin .copy, args := #[d, s], argTypes := #[26, 26] })
    (rb : Option Nat) (A : Option Addr) (n c : Nat) (l : List (List UInt8)) (hl : l.length = n) (hd : a.eval d = .slice A n c) (hr : Row w 9 1 rb (.slice A n c) n (l.map sv))
    (A2 : Option Addr) (m c2 : Nat) (l2 : List (List UInt8)) (hl2 : l2.length = m) (hs : a.eval s = .slice A2 m c2) (hT : TR Any w A2 l2)
    (h : ∀ w', Row w' 9 1 rb (.slice A n c) n ((laidOver l l2).map sv) → Fr (fun k => rb = some k) w w' → ∀ q : Nat, wpList Tryd.prog ops Q rest (a.put o.dst (goInt q)) w') : wpList Tryd.prog ops Q (o :: rest) a w := by
  cases rb with
  | none =>
    have h0 : n = 0 := by
      rcases hr with ⟨_, h0, _⟩ | ⟨g, e, _⟩
      · exact h0
      · cases e
    subst h0
    refine wpList_copy_nothing hgd d s 26 26 ho 9 Tryd.underlying26 infoS1 _ A2 0 c m c2 hd hs (Nat.min_zero m) ?_
    refine h w ?_ (Fr.refl _ _) 0
    have e0 : l = [] := List.eq_nil_of_length_eq_zero hl
    subst e0
    unfold laidOver
    simp only [List.length_nil, List.take_zero, List.drop_nil, List.append_nil]
    exact hr
  | some g =>
    obtain ⟨c', hv, hle⟩ := Row.form hr
    injection hv with e1 _ e3
    subst e1 e3
    obtain ⟨sp, hB, hsp, _, hcm⟩ := hr.open_
    have hll : (l.map sv).length = n := by rw [List.length_map, hl]
    have hlen : ((l2.take n).map sv).length = Nat.min m n := by
      rw [List.length_map, List.length_take, hl2]
      exact Nat.min_comm n m
    refine wl_copy w hgd d s 26 26 ho 9 Tryd.underlying26 infoS1 g 0 n c A2 m c2 hd hs 9 _ hB ((l2.take n).map sv) hlen (fun h0 => ?_) (by rw [List.length_append, hlen, hll]; have h9 : Nat.min m n ≤ n := Nat.min_le_right m n; omega) (sv_one _) (fun w' hB' hF => ?_)
    · have hp : 0 < (l2.take n).length := by rw [List.length_map] at h0; exact h0
      have ht : TR Any w A2 (l2.take n) := fun j u hj => hT j u (by
        rw [List.getElem?_take] at hj
        split at hj
        · exact hj
        · cases hj)
      exact ht.cells hp
    · refine h w' (Row.shut (sp := sp) ?_ (by rw [List.length_map, over_len, hl, Nat.mul_one]) (by omega) hle hcm) (hF.mono (fun q _ e => by rw [e])) _
      have e : splice (l.map sv ++ sp) 0 ((l2.take n).map sv) = (laidOver l l2).map sv ++ sp := by
        unfold splice laidOver
        rw [List.take_zero, List.nil_append, Nat.zero_add, hlen, hl, List.map_append, List.append_assoc]
        congr 1
        rw [List.drop_append_of_le_length (by rw [hll]; exact Nat.min_le_right m n), ← List.map_drop, hl2]
        congr 2
        rcases Nat.le_total m n with q | q
        · rw [show Nat.min m n = m from Nat.min_eq_left q]
        · rw [show Nat.min m n = n from Nat.min_eq_right q, List.drop_of_length_le (by omega), List.drop_of_length_le (by omega)]
      rw [← e]; exact hB'
/-- the book, as a law's walk carries it -/
def BkS (B : Nat → Prop) (w : World) (hb cnt : Nat) : Prop := ∃ ro rw m oo wo of wf, Bok B w hb ro rw m oo wo of wf ∧ (oo ++ of).length ≤ cnt ∧ (∀ x ∈ oo, x.d.length ≤ 10000) ∧ (∀ x ∈ of, x.d.length ≤ 8192)
theorem BkS.no {B : Nat → Prop} {w w1 : World} {hb cnt : Nat} (h : BkS B w hb cnt) (hf : Fr No w w1) : BkS B w1 hb cnt := by
  obtain ⟨ro, rw, m, oo, wo, of, wf, h1, h2⟩ := h
  exact ⟨ro, rw, m, oo, wo, of, wf, h1.no hf, h2⟩
theorem BkS.fr {B S : Nat → Prop} {w w1 : World} {hb cnt : Nat} (h : BkS B w hb cnt) (hf : Fr S w w1) (hS : ∀ k, S k → ¬ B k) : BkS B w1 hb cnt := by
  obtain ⟨ro, rw, m, oo, wo, of, wf, h1, h2⟩ := h
  exact ⟨ro, rw, m, oo, wo, of, wf, h1.fr hf hS, h2⟩
theorem BkS.weaken {B B' : Nat → Prop} {w : World} {hb cnt : Nat} (h : BkS B w hb cnt) (hB : ∀ k, k < w.heap.size → B k → B' k) : BkS B' w hb cnt := by
  obtain ⟨ro, rw, m, oo, wo, of, wf, h1, h2⟩ := h
  exact ⟨ro, rw, m, oo, wo, of, wf, h1.weaken hB, h2⟩
theorem BkS.first {B : Nat → Prop} {w : World} {hb : Nat} (h : Bk w hb 32 [.slice none 0 0, .slice none 0 0, .int .i64 ((0 : Nat) : Int)]) (hB : B hb) : BkS B w hb 0 :=
  ⟨_, _, _, _, _, _, _, Bok.first h hB, Nat.le_refl _, fun x hx => (by simp at hx), fun x hx => (by simp at hx)⟩
theorem BkS.small {oo of : List TL} {cnt : Nat} (hc : cnt ≤ 1000) (h1 : (oo ++ of).length ≤ cnt) (h2 : ∀ x ∈ oo, x.d.length ≤ 10000) (h3 : ∀ x ∈ of, x.d.length ≤ 8192) : Small oo of :=
  ⟨by omega, fun x hx => by
    rcases List.mem_append.1 hx with hx | hx
    · exact h2 x hx
    · have := h3 x hx; omega⟩
theorem BkS.more {B : Nat → Prop} {w : World} {hb cnt m : Nat} {ro rw : Option Nat} {oo wo of wf : List TL} {x y : TL} (h : Bok B w hb ro rw m oo wo (of ++ [x]) (wf ++ [y])) (h1 : (oo ++ of).length ≤ cnt) (h2 : ∀ x ∈ oo, x.d.length ≤ 10000) (h3 : ∀ x ∈ of, x.d.length ≤ 8192) (hx : x.d.length ≤ 8192) : BkS B w hb (cnt + 1) :=
  ⟨_, _, _, _, _, _, _, h, by rw [← List.append_assoc, List.length_append, List.length_singleton]; omega, h2, fun z hz => by
    rcases List.mem_append.1 hz with hz | hz
    · exact h3 z hz
    · rw [List.mem_singleton.1 hz]; exact hx⟩
theorem writeS (B : Nat → Prop) (w : World) (hb cnt : Nat) (h : BkS B w hb cnt) (hc : cnt ≤ 1000) (hB : ∀ k, w.heap.size ≤ k → B k) :
    Calls Tryd.prog 13 #[.pointer (some ⟨hb, 0, none⟩)] w fun e w' => e = .returned (.bool true) ∧ BkS B w' hb (2 * cnt) ∧ Fr B w w' := by
  obtain ⟨ro, rw, m, oo, wo, of, wf, h1, h2, h3, h4⟩ := h
  refine (bwrite B w hb ro rw m oo wo of wf h1 hB (by omega) h3 h4).mono ?_
  rintro e w' ⟨rfl, ro', rw', m', oo', wo', g1, g2, g3, g4⟩
  exact ⟨rfl, ⟨_, _, _, _, _, _, _, g1, by rw [List.append_nil]; omega, g3, fun x hx => (by simp at hx)⟩, g4⟩
theorem backS (B : Nat → Prop) (w : World) (hb cnt : Nat) (h : BkS B w hb cnt) (hc : cnt ≤ 1000) (hB : ∀ k, w.heap.size ≤ k → B k)
    (g d : Nat) (A : Option Addr) (n c : Nat) (l : List (List UInt8)) (hl : l.length = n) (hlc : n ≤ c) (hn : n ≤ 8796093022000) (hx : ∀ x ∈ l, x.length ≤ 140737488351232) (hg : ¬ B g) (hL : Lent w g d l) (hT : TR (fun k => ¬ B k) w A l) (hV : Vs w) (hC : Cd w) :
    Calls Tryd.prog 18 #[.pointer (some ⟨hb, 0, none⟩), .slice (some ⟨g, 0, none⟩) n d, .slice A n c] w fun e w' => e = .returned (.bool true) ∧ BkS B w' hb (cnt + 1) ∧ Fr B w w' := by
  obtain ⟨ro, rw, m, oo, wo, of, wf, h1, h2, h3, h4⟩ := h
  refine (bback B w hb ro rw m oo wo of wf h1 hB (BkS.small hc h2 h3 h4) g d A n c l hl hlc hn hx hg hL hT hV hC).mono ?_
  rintro e w' ⟨rfl, ro', rw', x, y, g1, g2, g3⟩
  exact ⟨rfl, BkS.more g1 h2 h3 h4 (by omega), g3⟩
end Go.Proofs.YtdhlbdllidfenaaDoor.Wd
