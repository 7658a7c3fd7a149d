/- The law SealRow: a stream beside what it must tell, in plain terms. Conditions: none. -/
import Derived.Test.YtfpjdgkooikeoaaDoorStrF
namespace Go.Proofs.YtfpjdgkooikeoaaDoor.Sl
open Go.RowKit Go.Proofs.YtfpjdgkooikeoaaDoor.Mem Go.Proofs.YtfpjdgkooikeoaaDoor.Opn
set_option linter.unusedVariables false
set_option linter.unusedSimpArgs false
structure RI (w wr : World) (sb J : Nat) (ds : List (List UInt8)) (ws : List HL) (rbw : Option Nat) (v6 : Value) : Prop where
  st : ∃ fb ps, Str wr sb fb [] ps J ∧ ps.map HL.d = ds ∧ (∀ k, fb = some k → w.heap.size ≤ k) ∧ (∀ k, rbw = some k → fb ≠ some k)
  row : Row wr 22 1 rbw v6 ws.length (ws.map HL.v)
  rwn : ∀ k, rbw = some k → w.heap.size ≤ k
  sbn : w.heap.size ≤ sb
  fr : Fr No w wr
section
variable {w wr w1 : World} {sb J : Nat} {ds : List (List UInt8)} {ws : List HL} {rbw : Option Nat} {v6 : Value}
theorem RI.no (h : RI w wr sb J ds ws rbw v6) (hf : Fr No wr w1) : RI w w1 sb J ds ws rbw v6 := by
  obtain ⟨fb, ps, a1, a2, a3, a4⟩ := h.st
  exact ⟨⟨fb, ps, a1.no hf, a2, a3, a4⟩, h.row.fr hf (fun _ _ q => q), h.rwn, h.sbn, h.fr.then_ hf⟩
theorem RI.feed (h : RI w wr sb J ds ws rbw v6) (b : List UInt8) (f : List (List UInt8)) (l : Nat) (hsc : Scan b f l []) (A : Option Addr) (n c : Nat) (hl : b.length = n) (hn : n ≤ 1000000) (hJ : J ≤ 1125899906842624) (hds : ds.length ≤ 4294967296) (hA : BR Any wr A b) (hT : Tab w) :
    Calls Tryd.prog 23 #[.pointer (some ⟨sb, 0, none⟩), .slice A n c] wr fun e w' => e = .returned (.tuple #[]) ∧ RI w w' sb (J + l) (ds ++ f) ws rbw v6 := by
  obtain ⟨fb, ps, a1, a2, a3, a4⟩ := h.st
  refine (sFeed sb fb [] ps J A n c b wr a1 hl (by omega) (by simp) (by rw [← a2, List.length_map] at hds; omega) (by omega) hA (hT.no h.fr)).mono ?_
  rintro e w' ⟨rfl, f', l', r', fb', qs, hsc', hst, hq, hF, hnb⟩
  rw [List.nil_append] at hsc'
  obtain ⟨rfl, rfl, rfl⟩ := hsc'.det hsc
  have hs := h.fr.size
  have hrs : ∀ k, rbw = some k → k ≠ sb := fun k hk => by
    obtain ⟨_, _, _, b1, _⟩ := a1.bk
    exact (h.row.bt hk).ne b1.bt (by decide)
  refine ⟨rfl, ⟨fb', ps ++ qs, hst, by rw [List.map_append, a2, hq], fun k hk => ?_, fun k hk e => ?_⟩, h.row.fr hF (fun k hk q => ?_), h.rwn, h.sbn, h.fr.trans hF (fun k hk q => ?_)⟩
  · rcases hnb k hk with q | q
    · exact a3 k q
    · omega
  · rcases hnb k e with q | q
    · exact a4 k hk q
    · have := h.row.lt hk; omega
  · rcases q with q | q
    · exact hrs k hk q
    · exact a4 k hk q
  · rcases q with q | q
    · have := h.sbn; omega
    · have := a3 k q; omega
theorem RI.junk (h : RI w wr sb J ds ws rbw v6) (x : UInt8) (hx : x ≠ 0x46) (A : Option Addr) (c : Nat) (hJ : J ≤ 1125899906842624) (hds : ds.length ≤ 4294967296) (hA : BR Any wr A [x]) (hT : Tab w) :
    Calls Tryd.prog 23 #[.pointer (some ⟨sb, 0, none⟩), .slice A 1 c] wr fun e w' => e = .returned (.tuple #[]) ∧ RI w w' sb (J + 1) ds ws rbw v6 := by
  have := h.feed [x] [] 1 (scan_junk x hx) A 1 c rfl (by omega) hJ hds hA hT
  rwa [List.append_nil] at this
theorem RI.seal_ (h : RI w wr sb J ds ws rbw v6) (p : List UInt8) (n : Nat) (hl : p.length = n) (hp : n ≤ 65536) (A : Option Addr) (c : Nat) (hJ : J ≤ 1125899906842624) (hds : ds.length ≤ 4294967296) (hA : BR Any wr A (sealL p)) (hT : Tab w) :
    Calls Tryd.prog 23 #[.pointer (some ⟨sb, 0, none⟩), .slice A (n + 13) c] wr fun e w' => e = .returned (.tuple #[]) ∧ RI w w' sb J (ds ++ [p]) ws rbw v6 :=
  h.feed (sealL p) [p] 0 (scan_seal p (by omega)) A (n + 13) c (by rw [sealL_len, hl]) (by omega) hJ hds hA hT
theorem RI.push (h : RI w wr sb J ds ws rbw v6) (z : HL) {rb5 : Option Nat} {v5 : Value} (hF : Fr (fun k => rbw = some k) wr w1) (hrow : Row w1 22 1 rb5 v5 (ws.length + 1) (ws.map HL.v ++ [z.v])) (hnb : rb5 = rbw ∨ ∃ k, rb5 = some k ∧ wr.heap.size ≤ k) : RI w w1 sb J ds (ws ++ [z]) rb5 v5 := by
  obtain ⟨fb, ps, a1, a2, a3, a4⟩ := h.st
  have hs := h.fr.size
  obtain ⟨_, _, _, b1, _, _, b4⟩ := a1.bk
  refine ⟨⟨fb, ps, a1.fr hF (fun q => (h.row.bt q).ne b1.bt (by decide) rfl) (fun k hk q => a4 k q hk) (fun k q t => (h.row.bt q).ne t (by decide) rfl), a2, a3, fun k hk e => ?_⟩, by rw [List.length_append, List.map_append]; exact hrow, fun k hk => ?_, h.sbn, h.fr.trans hF (fun k hk q => by have := h.rwn k q; omega)⟩
  · rcases hnb with q | ⟨k', q, hk'⟩
    · exact a4 k (by rw [← q]; exact hk) e
    · rw [q] at hk
      cases hk
      have := (b4.bt e).lt
      omega
  · rcases hnb with q | ⟨k', q, hk'⟩
    · exact h.rwn k (by rw [← q]; exact hk)
    · rw [q] at hk
      cases hk
      omega
theorem RI.next {d : List UInt8} (h : RI w wr sb J (d :: ds) ws rbw v6) : Calls Tryd.prog 24 #[.pointer (some ⟨sb, 0, none⟩)] wr fun e w' => ∃ A c, e = .returned (.tuple #[.slice A d.length c, .bool true]) ∧ RI w w' sb J ds ws rbw v6 ∧ BR Any w' A d := by
  obtain ⟨fb, ps, a1, a2, a3, a4⟩ := h.st
  match ps, a2 with
  | p :: ps, a2 =>
    rw [List.map_cons, List.cons.injEq] at a2
    obtain ⟨rfl, a2t⟩ := a2
    refine (sNext sb fb [] p ps J wr a1).mono ?_
    rintro e w' ⟨rfl, fb', hst, hF, hfb⟩
    obtain ⟨_, _, _, b1, _⟩ := a1.bk
    have hfb' : ∀ k, fb' = some k → fb = some k := fun k hk => by
      rcases hfb with q | q
      · rw [q] at hk; cases hk
      · rw [← q]; exact hk
    refine ⟨p.A, p.c, rfl, ⟨⟨fb', ps, hst, a2t, fun k hk => a3 k (hfb' k hk), fun k hk e => a4 k hk (hfb' k e)⟩, h.row.fr hF (fun k hk q => (h.row.bt hk).ne b1.bt (by decide) q), h.rwn, h.sbn, h.fr.trans hF (fun k hk q => by have := h.sbn; omega)⟩, RD.any ((a1.rd p (List.mem_cons_self ..)).1.fr hF (fun k q => a1.far k (.inl q)))⟩
theorem RI.next_none (h : RI w wr sb J [] ws rbw v6) : Calls Tryd.prog 24 #[.pointer (some ⟨sb, 0, none⟩)] wr fun e w' => e = .returned (.tuple #[.slice none 0 0, .bool false]) ∧ w' = wr := by
  obtain ⟨fb, ps, a1, a2, a3, a4⟩ := h.st
  match ps, a2 with
  | [], _ => exact sNext_none sb fb [] J wr a1
theorem RI.lost_ (h : RI w wr sb J ds ws rbw v6) : Calls Tryd.prog 25 #[.pointer (some ⟨sb, 0, none⟩)] wr fun e w' => e = .returned (.int .i64 (J : Int)) ∧ w' = wr := by
  obtain ⟨fb, ps, a1, _⟩ := h.st
  exact sLost sb fb [] ps J wr a1
theorem RI.held_ (h : RI w wr sb J ds ws rbw v6) : Calls Tryd.prog 26 #[.pointer (some ⟨sb, 0, none⟩)] wr fun e w' => e = .returned (.int .i64 0) ∧ w' = wr := by
  obtain ⟨fb, ps, a1, _⟩ := h.st
  exact sHeld sb fb [] ps J wr a1
end
end Go.Proofs.YtfpjdgkooikeoaaDoor.Sl
