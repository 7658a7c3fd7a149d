/- The law SealCuts: two streams beside one another, in plain terms. Conditions: none. -/
import Derived.Test.YtfpjdgkooikeoaaDoorStrG
namespace Go.Proofs.YtfpjdgkooikeoaaDoor.Sl
open Go.RowKit Go.Proofs.YtfpjdgkooikeoaaDoor.Mem Go.Proofs.YtfpjdgkooikeoaaDoor.Opn
set_option linter.unusedVariables false
set_option linter.unusedSimpArgs false
structure CI (w wr : World) (sa sb : Nat) (da db : List (List UInt8)) (ha hb : List UInt8) (la lb : Nat) (gs : List HL) (rbg : Option Nat) (v : Value) : Prop where
  st : ∃ fa pa fb pb, Str wr sa fa ha pa la ∧ pa.map HL.d = da ∧ Str wr sb fb hb pb lb ∧ pb.map HL.d = db ∧ (∀ k, fa = some k → w.heap.size ≤ k) ∧ (∀ k, fb = some k → w.heap.size ≤ k) ∧ (∀ k, fa = some k → fb ≠ some k) ∧ (∀ k, rbg = some k → fa ≠ some k ∧ fb ≠ some k)
  row : Row wr 22 1 rbg v gs.length (gs.map HL.v)
  gd : ∀ z ∈ gs, RD wr z.A z.d ∧ z.d.length ≤ z.c
  rgn : ∀ k, rbg = some k → w.heap.size ≤ k
  an : w.heap.size ≤ sa
  bn : w.heap.size ≤ sb
  ne : sa ≠ sb
  fr : Fr No w wr
section
variable {w wr w1 : World} {sa sb : Nat} {da db : List (List UInt8)} {ha hb : List UInt8} {la lb : Nat} {gs : List HL} {rbg : Option Nat} {v : Value}
theorem CI.swap (h : CI w wr sa sb da db ha hb la lb gs rbg v) : CI w wr sb sa db da hb ha lb la gs rbg v := by
  obtain ⟨fa, pa, fb, pb, a1, a2, a3, a4, a5, a6, a7, a8⟩ := h.st
  exact ⟨⟨fb, pb, fa, pa, a3, a4, a1, a2, a6, a5, fun k hk e => a7 k e hk, fun k hk => ⟨(a8 k hk).2, (a8 k hk).1⟩⟩, h.row, h.gd, h.rgn, h.bn, h.an, h.ne.symm, h.fr⟩
theorem CI.no (h : CI w wr sa sb da db ha hb la lb gs rbg v) (hf : Fr No wr w1) : CI w w1 sa sb da db ha hb la lb gs rbg v := by
  obtain ⟨fa, pa, fb, pb, a1, a2, a3, a4, a5, a6, a7, a8⟩ := h.st
  exact ⟨⟨fa, pa, fb, pb, a1.no hf, a2, a3.no hf, a4, a5, a6, a7, a8⟩, h.row.fr hf (fun _ _ q => q), fun z hz => ⟨(h.gd z hz).1.fr hf (fun _ q => q.elim), (h.gd z hz).2⟩, h.rgn, h.an, h.bn, h.ne, h.fr.then_ hf⟩
theorem CI.feed (h : CI w wr sa sb da db ha hb la lb gs rbg v) (A : Option Addr) (n c : Nat) (x : List UInt8) (hl : x.length = n) (hn : n ≤ 1048576) (hh : hb.length ≤ 65548) (hd : db.length ≤ 4294967296) (hlo : lb ≤ 1125899906842624) (hA : BR Any wr A x) (hT : Tab w) :
    Calls Tryd.prog 23 #[.pointer (some ⟨sb, 0, none⟩), .slice A n c] wr fun e w' => e = .returned (.tuple #[]) ∧ ∃ f l r, Scan (hb ++ x) f l r ∧ CI w w' sa sb da (db ++ f) ha r la (lb + l) gs rbg v := by
  obtain ⟨fa, pa, fb, pb, a1, a2, a3, a4, a5, a6, a7, a8⟩ := h.st
  refine (sFeed sb fb hb pb lb A n c x wr a3 hl (by omega) hh (by rw [← a4, List.length_map] at hd; omega) (by omega) hA (hT.no h.fr)).mono ?_
  rintro e w' ⟨rfl, f, l, r, fb', qs, hsc, hst, hq, hF, hnb⟩
  have hs := h.fr.size
  obtain ⟨_, _, _, b1, _, _, b4⟩ := a1.bk
  obtain ⟨_, _, _, c1, _, _, c4⟩ := a3.bk
  refine ⟨rfl, f, l, r, hsc, ⟨⟨fa, pa, fb', pb ++ qs, a1.fr hF (fun q => ?_) (fun k hk q => ?_) a3.far, a2, hst, by rw [List.map_append, a4, hq], a5, fun k hk => ?_, fun k hk e => ?_, fun k hk => ⟨(a8 k hk).1, fun e => ?_⟩⟩, h.row.fr hF (fun k hk q => ?_), fun z hz => ⟨(h.gd z hz).1.fr hF a3.far, (h.gd z hz).2⟩, h.rgn, h.an, h.bn, h.ne, h.fr.trans hF (fun k hk q => ?_)⟩⟩
  · rcases q with q | q
    · exact h.ne q
    · exact (c4.bt q).ne b1.bt (by decide) rfl
  · rcases q with q | q
    · exact (b4.bt hk).ne c1.bt (by decide) q
    · exact a7 k hk q
  · rcases hnb k hk with q | q
    · exact a6 k q
    · omega
  · rcases hnb k e with q | q
    · exact a7 k hk q
    · have := (b4.bt hk).lt; omega
  · rcases hnb k e with q | q
    · exact (a8 k hk).2 q
    · have := h.row.lt hk; omega
  · rcases q with q | q
    · exact (h.row.bt hk).ne c1.bt (by decide) q
    · exact (a8 k hk).2 q
  · rcases q with q | q
    · have := h.bn; omega
    · have := a6 k q; omega
theorem CI.next {d : List UInt8} (h : CI w wr sa sb da (d :: db) ha hb la lb gs rbg v) : Calls Tryd.prog 24 #[.pointer (some ⟨sb, 0, none⟩)] wr fun e w' => ∃ A c, e = .returned (.tuple #[.slice A d.length c, .bool true]) ∧ CI w w' sa sb da db ha hb la lb gs rbg v ∧ RD w' A d ∧ d.length ≤ c ∧ ∀ (A' : Option Addr) (l : List UInt8), RD wr A' l → RD w' A' l := by
  obtain ⟨fa, pa, fb, pb, a1, a2, a3, a4, a5, a6, a7, a8⟩ := h.st
  match pb, a4 with
  | p :: pb, a4 =>
    rw [List.map_cons, List.cons.injEq] at a4
    obtain ⟨rfl, a4t⟩ := a4
    refine (sNext sb fb hb p pb lb wr a3).mono ?_
    rintro e w' ⟨rfl, fb', hst, hF, hfb⟩
    obtain ⟨_, _, _, b1, _, _, b4⟩ := a1.bk
    obtain ⟨_, _, _, c1, _, _, c4⟩ := a3.bk
    have hfb' : ∀ k, fb' = some k → fb = some k := fun k hk => by
      rcases hfb with q | q
      · rw [q] at hk; cases hk
      · rw [← q]; exact hk
    have far : ∀ k, k = sb → ¬ BT wr k 5 := fun k q => a3.far k (.inl q)
    exact ⟨p.A, p.c, rfl, ⟨⟨fa, pa, fb', pb, a1.fr hF h.ne (fun k hk q => (b4.bt hk).ne c1.bt (by decide) q) far, a2, hst, a4t, a5, fun k hk => a6 k (hfb' k hk), fun k hk e => a7 k hk (hfb' k e), fun k hk => ⟨(a8 k hk).1, fun e => (a8 k hk).2 (hfb' k e)⟩⟩, h.row.fr hF (fun k hk q => (h.row.bt hk).ne c1.bt (by decide) q), fun z hz => ⟨(h.gd z hz).1.fr hF far, (h.gd z hz).2⟩, h.rgn, h.an, h.bn, h.ne, h.fr.trans hF (fun k hk q => by have := h.bn; omega)⟩, (a3.rd p (List.mem_cons_self ..)).1.fr hF far, (a3.rd p (List.mem_cons_self ..)).2, fun A' l q => q.fr hF far⟩
theorem CI.next_none (h : CI w wr sa sb da [] ha hb la lb gs rbg v) : Calls Tryd.prog 24 #[.pointer (some ⟨sb, 0, none⟩)] wr fun e w' => e = .returned (.tuple #[.slice none 0 0, .bool false]) ∧ w' = wr := by
  obtain ⟨fa, pa, fb, pb, a1, a2, a3, a4, _⟩ := h.st
  match pb, a4 with
  | [], _ => exact sNext_none sb fb hb lb wr a3
theorem CI.push (h : CI w wr sa sb da db ha hb la lb gs rbg v) (z : HL) (hz : RD wr z.A z.d ∧ z.d.length ≤ z.c) {rb5 : Option Nat} {v5 : Value} (hF : Fr (fun k => rbg = some k) wr w1) (hrow : Row w1 22 1 rb5 v5 (gs.length + 1) (gs.map HL.v ++ [z.v])) (hnb : rb5 = rbg ∨ ∃ k, rb5 = some k ∧ wr.heap.size ≤ k) : CI w w1 sa sb da db ha hb la lb (gs ++ [z]) rb5 v5 := by
  obtain ⟨fa, pa, fb, pb, a1, a2, a3, a4, a5, a6, a7, a8⟩ := h.st
  have hs := h.fr.size
  obtain ⟨_, _, _, b1, _, _, b4⟩ := a1.bk
  obtain ⟨_, _, _, c1, _, _, c4⟩ := a3.bk
  have far : ∀ k, rbg = some k → ¬ BT wr k 5 := fun k q t => (h.row.bt q).ne t (by decide) rfl
  refine ⟨⟨fa, pa, fb, pb, a1.fr hF (fun q => (h.row.bt q).ne b1.bt (by decide) rfl) (fun k hk q => (a8 k q).1 hk) far, a2, a3.fr hF (fun q => (h.row.bt q).ne c1.bt (by decide) rfl) (fun k hk q => (a8 k q).2 hk) far, a4, a5, a6, a7, fun k hk => ?_⟩, by rw [List.length_append, List.map_append]; exact hrow, fun y hy => ?_, fun k hk => ?_, h.an, h.bn, h.ne, h.fr.trans hF (fun k hk q => by have := h.rgn k q; omega)⟩
  · rcases hnb with q | ⟨k', q, hk'⟩
    · exact a8 k (by rw [← q]; exact hk)
    · rw [q] at hk
      cases hk
      exact ⟨fun e => by have := (b4.bt e).lt; omega, fun e => by have := (c4.bt e).lt; omega⟩
  · rcases List.mem_append.1 hy with hy | hy
    · exact ⟨(h.gd y hy).1.fr hF far, (h.gd y hy).2⟩
    · rw [List.mem_singleton.1 hy]; exact ⟨hz.1.fr hF far, hz.2⟩
  · rcases hnb with q | ⟨k', q, hk'⟩
    · exact h.rgn k (by rw [← q]; exact hk)
    · rw [q] at hk
      cases hk
      omega
theorem CI.lost_ (h : CI w wr sa sb da db ha hb la lb gs rbg v) : Calls Tryd.prog 25 #[.pointer (some ⟨sb, 0, none⟩)] wr fun e w' => e = .returned (.int .i64 (lb : Int)) ∧ w' = wr := by
  obtain ⟨fa, pa, fb, pb, a1, a2, a3, a4, _⟩ := h.st
  exact sLost sb fb hb pb lb wr a3
theorem CI.held_ (h : CI w wr sa sb da db ha hb la lb gs rbg v) : Calls Tryd.prog 26 #[.pointer (some ⟨sb, 0, none⟩)] wr fun e w' => e = .returned (.int .i64 (hb.length : Int)) ∧ w' = wr := by
  obtain ⟨fa, pa, fb, pb, a1, a2, a3, a4, _⟩ := h.st
  exact sHeld sb fb hb pb lb wr a3
end
theorem took_le {f g : List (List UInt8)} {n : Nat} (h : took (f ++ g) ≤ n) : took f ≤ n := by rw [took_app] at h; omega
theorem took_len (f : List (List UInt8)) : 13 * f.length ≤ took f := by
  induction f with
  | nil => simp
  | cons p f ih => rw [took_cons, List.length_cons]; omega
theorem take_drop_add {α : Type} (b : List α) (i n : Nat) : b.take i ++ (b.drop i).take n = b.take (i + n) := by
  rw [← List.take_append_drop i (b.take (i + n))]
  congr 1
  · rw [List.take_take, Nat.min_eq_left (by omega)]
  · rw [List.drop_take, Nat.add_sub_cancel_left]
end Go.Proofs.YtfpjdgkooikeoaaDoor.Sl
