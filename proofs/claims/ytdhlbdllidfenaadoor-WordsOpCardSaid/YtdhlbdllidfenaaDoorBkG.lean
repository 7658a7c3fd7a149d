/- Words: the book: while its owner lets the lists grow. No walk. Conditions: none. -/
import Derived.Test.YtdhlbdllidfenaaDoorBkF
namespace Go.Proofs.YtdhlbdllidfenaaDoor.Wd
open Go.RowKit Go.Proofs.YtdhlbdllidfenaaDoor.Mem
set_option linter.unusedVariables false
set_option linter.unusedSimpArgs false
structure Grw (B : Nat → Prop) (w : World) (hb : Nat) (ro rw : Option Nat) (m : Nat) (os ws fs : List TL) : Prop where
  bk : ∃ vo vw, Bk w hb 32 [vo, vw, .int .i64 (m : Int)] ∧ Row w 26 1 ro vo os.length (os.map TL.v) ∧ Row w 26 1 rw vw ws.length (ws.map TL.v)
  eq : os.map TL.d = ws.map TL.d
  rd : ∀ x ∈ os ++ ws, x ∈ fs ∨ TR (Far fs w) w x.A x.d
  lr : ∀ x ∈ fs, LT w x
  ap : fs.Pairwise (fun x y => ∀ k, x.b = some k → y.b ≠ some k)
  ne : ∀ k, ro = some k → rw ≠ some k
  hbn : B hb
  ron : ∀ k, ro = some k → B k
  rwn : ∀ k, rw = some k → B k
  xn : ∀ x ∈ fs, ∀ k, x.b = some k → B k
  ob : ∀ x ∈ os ++ ws, x.d ≠ [] → ∀ ad, x.A = some ad → B ad.block
theorem Grw.no {B : Nat → Prop} {w w1 : World} {hb m : Nat} {ro rw : Option Nat} {os ws fs : List TL} (h : Grw B w hb ro rw m os ws fs) (hf : Fr No w w1) : Grw B w1 hb ro rw m os ws fs := by
  obtain ⟨vo, vw, h1, h2, h3⟩ := h.bk
  exact ⟨⟨vo, vw, h1.fr hf id, h2.fr hf (fun _ _ q => q), h3.fr hf (fun _ _ q => q)⟩, h.eq, fun x hx => (h.rd x hx).imp id (fun z => z.frT hf (fun _ q => q.elim)), fun x hx => (h.lr x hx).fr hf (fun _ _ q => q), h.ap, h.ne, h.hbn, h.ron, h.rwn, h.xn, h.ob⟩
theorem Grw.start {B : Nat → Prop} {w : World} {hb m : Nat} {ro rw : Option Nat} {oo wo of wf : List TL} (h : Bok B w hb ro rw m oo wo of wf) : Grw B w hb ro rw m (oo ++ of) (wo ++ wf) of := by
  obtain ⟨p1, p2, p3⟩ := List.pairwise_append.1 h.ap
  refine ⟨h.bk, by rw [List.map_append, List.map_append, h.eo, h.ef], fun x hx => ?_, fun x hx => h.lr x (List.mem_append_left _ hx), p1, h.ne, h.hbn, h.ron, h.rwn, fun x hx => h.xn x (List.mem_append_left _ hx), fun x hx hd ad hA => (by
    rcases List.mem_append.1 hx with hx | hx
    · rcases List.mem_append.1 hx with hx | hx
      · exact h.ob x (List.mem_append_left _ hx) hd ad hA
      · exact h.xn x (List.mem_append_left _ hx) _ ((h.lr x (List.mem_append_left _ hx)).blk hd hA)
    · rcases List.mem_append.1 hx with hx | hx
      · exact h.ob x (List.mem_append_right _ hx) hd ad hA
      · exact h.xn x (List.mem_append_right _ hx) _ ((h.lr x (List.mem_append_right _ hx)).blk hd hA))⟩
  rcases List.mem_append.1 hx with hx | hx
  · rcases List.mem_append.1 hx with hx | hx
    · exact .inr ((h.rd x (List.mem_append_left _ hx)).mem (fun y hy => List.mem_append_left _ hy))
    · exact .inl hx
  · rcases List.mem_append.1 hx with hx | hx
    · exact .inr ((h.rd x (List.mem_append_right _ hx)).mem (fun y hy => List.mem_append_left _ hy))
    · have hl := h.lr x (List.mem_append_right _ hx)
      exact .inr (Row.tr (D := Far of w) hl (fun k hk => ⟨Row.bt hl hk, fun y hy e => p3 y hy x hx k e hk⟩))
theorem Grw.next {B : Nat → Prop} {w w1 : World} {hb m : Nat} {ro rw ro' rw' : Option Nat} {os ws fs : List TL} {z lz mz : TL} {vo' vw' : Value} (h : Grw B w hb ro rw m os ws (z :: fs))
    (hS : Fr (fun k => z.b = some k ∨ k = hb ∨ ro = some k ∨ rw = some k) w w1) (hk : Bk w1 hb 32 [vo', vw', .int .i64 (m : Int)])
    (ho : Row w1 26 1 ro' vo' (os ++ [lz]).length ((os ++ [lz]).map TL.v)) (hw : Row w1 26 1 rw' vw' (ws ++ [mz]).length ((ws ++ [mz]).map TL.v)) (hd : lz.d = mz.d)
    (hz : TR (Far fs w1) w1 z.A z.d) (hlz : TR (Far fs w1) w1 lz.A lz.d) (hmz : TR (Far fs w1) w1 mz.A mz.d) (hne : ∀ k, ro' = some k → rw' ≠ some k) (hro : ∀ k, ro' = some k → B k) (hrw : ∀ k, rw' = some k → B k) (hol : lz.d ≠ [] → ∀ ad, lz.A = some ad → B ad.block) (hom : mz.d ≠ [] → ∀ ad, mz.A = some ad → B ad.block) :
    Grw B w1 hb ro' rw' m (os ++ [lz]) (ws ++ [mz]) fs := by
  obtain ⟨vo, vw, h1, h2, h3⟩ := h.bk
  obtain ⟨p1, p2⟩ := List.pairwise_cons.1 h.ap
  refine ⟨⟨vo', vw', hk, ho, hw⟩, by rw [List.map_append, List.map_append, h.eq]; show _ ++ [lz.d] = _ ++ [mz.d]; rw [hd], fun x hx => ?_, fun x hx => ?_, p2, hne, h.hbn, hro, hrw, fun x hx => h.xn x (List.mem_cons_of_mem _ hx), fun x hx hd ad hA => (by
    rcases List.mem_append.1 hx with hx | hx
    · rcases List.mem_append.1 hx with hx | hx
      · exact h.ob x (List.mem_append_left _ hx) hd ad hA
      · rw [List.mem_singleton.1 hx] at hd hA; exact hol hd ad hA
    · rcases List.mem_append.1 hx with hx | hx
      · exact h.ob x (List.mem_append_right _ hx) hd ad hA
      · rw [List.mem_singleton.1 hx] at hd hA; exact hom hd ad hA)⟩
  · have hc : x ∈ os ++ ws ∨ x = lz ∨ x = mz := by
      simp only [List.mem_append, List.mem_singleton] at hx ⊢
      rcases hx with (hx | hx) | (hx | hx)
      · exact .inl (.inl hx)
      · exact .inr (.inl hx)
      · exact .inl (.inr hx)
      · exact .inr (.inr hx)
    rcases hc with hx | rfl | rfl
    · rcases h.rd x hx with hf | hr
      · rcases List.mem_cons.1 hf with rfl | hf
        · exact .inr hz
        · exact .inl hf
      · refine .inr ((hr.frT hS (fun k q hbt => ?_)).mem (fun y hy => List.mem_cons_of_mem _ hy))
        rcases q with q | rfl | q | q
        · exact ⟨z, List.mem_cons_self .., q⟩
        · exact absurd rfl (hbt.ne h1.bt (by decide))
        · exact absurd rfl (hbt.ne (h2.bt q) (by decide))
        · exact absurd rfl (hbt.ne (h3.bt q) (by decide))
    · exact .inr hlz
    · exact .inr hmz
  · have hl := h.lr x (List.mem_cons_of_mem _ hx)
    refine hl.fr hS (fun k hk' q => ?_)
    rcases q with q | rfl | q | q
    · exact p1 x hx k q hk'
    · exact (Row.bt hl hk').ne h1.bt (by decide) rfl
    · exact (Row.bt hl hk').ne (h2.bt q) (by decide) rfl
    · exact (Row.bt hl hk').ne (h3.bt q) (by decide) rfl
theorem Grw.shut {B : Nat → Prop} {w w1 : World} {hb m m' : Nat} {ro rw : Option Nat} {os ws : List TL} {vo vw : Value} (h : Grw B w hb ro rw m os ws []) (hm : os.length = m') (hS : Fr (fun k => k = hb) w w1) (hk0 : Bk w hb 32 [vo, vw, .int .i64 (m : Int)]) (hk : Bk w1 hb 32 [vo, vw, .int .i64 (m' : Int)]) : Bok B w1 hb ro rw m' os ws [] [] := by
  obtain ⟨vo0, vw0, h1, h2, h3⟩ := h.bk
  have e := h1.inj hk0
  injection e with e1 e
  injection e with e2 _
  subst e1 e2
  refine ⟨⟨vo0, vw0, hk, ?_, ?_⟩, hm, ?_, h.eq, rfl, fun x hx => ?_, fun x hx => (by simp at hx), List.Pairwise.nil, h.ne, h.hbn, h.ron, h.rwn, fun x hx => (by simp at hx), h.ob⟩
  · rw [List.append_nil]; exact h2.fr hS (fun k hk' q => by subst q; exact (h2.bt hk').ne h1.bt (by decide) rfl)
  · rw [List.append_nil]; exact h3.fr hS (fun k hk' q => by subst q; exact (h3.bt hk').ne h1.bt (by decide) rfl)
  · have := congrArg List.length h.eq
    rw [List.length_map, List.length_map] at this
    omega
  · rcases h.rd x hx with hf | hr
    · cases hf
    · exact hr.frT hS (fun k q hbt => by subst q; exact absurd rfl (hbt.ne h1.bt (by decide)))
end Go.Proofs.YtdhlbdllidfenaaDoor.Wd
