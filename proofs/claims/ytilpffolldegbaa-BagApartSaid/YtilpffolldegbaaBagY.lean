/- Several bags beside one another, each in blocks of its own, and a list that was handed out. Conditions: none. -/
import Derived.Test.YtilpffolldegbaaBagV
namespace Go.Proofs.Ytilpffolldegbaa.Bg
open Go.RowKit Go.Proofs.Ytilpffolldegbaa.Mem
set_option linter.unusedVariables false
set_option linter.unusedSimpArgs false

structure En where (g : Nat) (rb : Option Nat) (s : St)
/-- bags made since w0 in blocks apart; the list vq, in blocks apart too -/
structure Sys (w0 w : World) (l : List En) (rq : Option Nat) (vq : Value) (q : List Pk) : Prop where
  fr : Fr No w0 w
  bag : ∀ (j : Nat) (e : En), l[j]? = some e → Bag No w e.g e.rb e.s
  hg : ∀ (j : Nat) (e : En), l[j]? = some e → w0.heap.size ≤ e.g ∧ ∀ k, e.rb = some k → w0.heap.size ≤ k
  dj : ∀ (i j : Nat) (a b : En), i ≠ j → l[i]? = some a → l[j]? = some b → a.g ≠ b.g ∧ ∀ k, a.rb = some k → b.rb ≠ some k
  seen : PR No w rq vq q
  dq : ∀ (j : Nat) (e : En), l[j]? = some e → ∀ k, rq = some k → e.rb ≠ some k
section
variable {w0 w w1 : World} {l : List En} {rq : Option Nat} {vq : Value} {q : List Pk} {g : Nat} {rb rb1 : Option Nat} {s s1 : St}
theorem Bag.rlt (h : Bag No w g rb s) {k : Nat} (hk : rb = some k) : BT w k 31 := by obtain ⟨v, _, h2⟩ := h; exact h2.bt hk
theorem Bag.gbt (h : Bag No w g rb s) : BT w g 76 := by obtain ⟨v, h1, _⟩ := h; exact h1.bt
theorem Sys.nil (h : Fr No w0 w) : Sys w0 w [] none (.slice none 0 0) [] := ⟨h, fun _ _ h => by simp at h, fun _ _ h => by simp at h, fun _ _ _ _ _ h => by simp at h, PR.nil _ _, fun _ _ h => by simp at h⟩
theorem Sys.quiet (h : Sys w0 w l rq vq q) (hF : Fr No w w1) : Sys w0 w1 l rq vq q :=
  ⟨h.fr.then_ hF, fun j e he => (h.bag j e he).below hF.to, h.hg, h.dj, h.seen.below hF.to, h.dq⟩
theorem Sys.list (h : Sys w0 w l rq vq q) (hF : Fr No w w1) {r2 : Option Nat} {v2 : Value} {q2 : List Pk} (hp : PR No w1 r2 v2 q2) (hn : ∀ k, r2 = some k → w.heap.size ≤ k) : Sys w0 w1 l r2 v2 q2 :=
  ⟨h.fr.then_ hF, fun j e he => (h.bag j e he).below hF.to, h.hg, h.dj, hp, fun j e he k hk hr => by
    have h1 := hn k hk
    have h2 := ((h.bag j e he).rlt hr).lt
    omega⟩
theorem Sys.more (h : Sys w0 w l rq vq q) (hB : Bag No w1 w.heap.size rb s) (hF : Fr No w w1) (hn : ∀ k, rb = some k → w.heap.size < k) : Sys w0 w1 (l ++ [⟨w.heap.size, rb, s⟩]) rq vq q := by
  have h' := h.quiet hF
  have key : ∀ (j : Nat) (e : En), (l ++ [(⟨w.heap.size, rb, s⟩ : En)])[j]? = some e → l[j]? = some e ∨ (j = l.length ∧ e = ⟨w.heap.size, rb, s⟩) := fun j e he => by
    rw [List.getElem?_append] at he
    split at he
    · exact .inl he
    · rw [List.getElem?_singleton] at he
      split at he
      · exact .inr ⟨by omega, (Option.some.inj he).symm⟩
      · cases he
  have old : ∀ (j : Nat) (e : En), l[j]? = some e → e.g < w.heap.size ∧ ∀ k, e.rb = some k → k < w.heap.size := fun j e he => ⟨(h.bag j e he).lt, fun k hk => ((h.bag j e he).rlt hk).lt⟩
  refine ⟨h'.fr, fun j e he => ?_, fun j e he => ?_, fun i j a b hij ha hb => ?_, h'.seen, fun j e he k hk hr => ?_⟩
  · rcases key j e he with he | ⟨_, rfl⟩
    · exact h'.bag j e he
    · exact hB
  · rcases key j e he with he | ⟨_, rfl⟩
    · exact h'.hg j e he
    · exact ⟨h.fr.size, fun k hk => by have h1 := hn k hk; have h2 := h.fr.size; omega⟩
  · rcases key i a ha with ha | ⟨hi, rfl⟩
    · rcases key j b hb with hb | ⟨_, rfl⟩
      · exact h.dj i j a b hij ha hb
      · obtain ⟨h1, h2⟩ := old i a ha
        exact ⟨fun q => by dsimp only at q; omega, fun k hk hr => by have := h2 k hk; have := hn k hr; omega⟩
    · rcases key j b hb with hb | ⟨hj, rfl⟩
      · obtain ⟨h1, h2⟩ := old j b hb
        exact ⟨fun q => by dsimp only at q; omega, fun k hk hr => by have := h2 k hr; have := hn k hk; omega⟩
      · exact absurd (hi.trans hj.symm) hij
  · rcases key j e he with he | ⟨_, rfl⟩
    · exact h.dq j e he k hk hr
    · have h1 := hn k hr
      have h2 := (h.seen.bt hk).lt
      omega
theorem Sys.step (h : Sys w0 w l rq vq q) (i : Nat) (hi : l[i]? = some ⟨g, rb, s⟩) (hB : Bag No w1 g rb1 s1) (hF : Fr (Sg g rb) w w1) (hn : Nb w rb rb1) : Sys w0 w1 (l.set i ⟨g, rb1, s1⟩) rq vq q := by
  have hb := h.bag i _ hi
  have hil : i < l.length := (List.getElem?_eq_some_iff.1 hi).1
  have key : ∀ (j : Nat) (e : En), (l.set i (⟨g, rb1, s1⟩ : En))[j]? = some e → (i ≠ j ∧ l[j]? = some e) ∨ (j = i ∧ e = ⟨g, rb1, s1⟩) := fun j e he => by
    rw [List.getElem?_set] at he
    split at he
    · rename_i hij
      exact .inr ⟨hij.symm, (Option.some.inj he).symm⟩
    · rename_i hij
      exact .inl ⟨hij, he⟩
  have hsz := hF.size
  have hgi := h.hg i _ hi
  have h8 : ∀ k, Sg g rb k → BT w k 5 → No k := hb.sg
  have hnew : ∀ k, rb1 = some k → rb = some k ∨ w.heap.size ≤ k := fun k hk => by
    rcases hn with hn | ⟨q, hn, hq⟩
    · exact .inl (hn.symm.trans hk)
    · rw [hn] at hk
      cases hk
      exact .inr hq
  have hbg : ∀ k, k < w0.heap.size → Sg g rb k → No k := fun k hk hs => by
    rcases hs with rfl | hs
    · have := hgi.1; dsimp only at this; omega
    · have := hgi.2 k hs; omega
  refine ⟨h.fr.trans hF hbg, fun j e he => ?_, fun j e he => ?_, fun a b x y hab hx hy => ?_, ?_, fun j e he k hk hr => ?_⟩
  · rcases key j e he with ⟨hij, he⟩ | ⟨_, rfl⟩
    · have hd := h.dj i j _ e hij hi he
      have hbe := h.bag j e he
      refine hbe.fr hF (fun q => ?_) (fun k hk q => ?_) h8
      · rcases q with q | q
        · exact hd.1 q.symm
        · exact absurd rfl ((hb.rlt q).ne hbe.gbt (by decide))
      · rcases q with rfl | q
        · exact absurd rfl ((hbe.rlt hk).ne hb.gbt (by decide))
        · exact hd.2 k q hk
    · exact hB
  · rcases key j e he with ⟨hij, he⟩ | ⟨_, rfl⟩
    · exact h.hg j e he
    · exact ⟨hgi.1, fun k hk => by
        rcases hnew k hk with hk | hk
        · exact hgi.2 k hk
        · have := h.fr.size; omega⟩
  · rcases key a x hx with ⟨hij, hx⟩ | ⟨ha, rfl⟩
    · rcases key b y hy with ⟨hij', hy⟩ | ⟨hb', rfl⟩
      · exact h.dj a b x y hab hx hy
      · have hd := h.dj a i x _ (fun q => hij q.symm) hx hi
        refine ⟨hd.1, fun k hk hr => ?_⟩
        rcases hnew k hr with hr | hr
        · exact hd.2 k hk hr
        · have := ((h.bag a x hx).rlt hk).lt; omega
    · rcases key b y hy with ⟨hij', hy⟩ | ⟨hb', rfl⟩
      · have hd := h.dj i b _ y hij' hi hy
        refine ⟨hd.1, fun k hk hr => ?_⟩
        rcases hnew k hk with hk | hk
        · exact hd.2 k hk hr
        · have := ((h.bag b y hy).rlt hr).lt; omega
      · exact absurd (ha.trans hb'.symm) hab
  · refine h.seen.fr hF (fun k hk q => ?_) h8
    rcases q with rfl | q
    · exact absurd rfl ((h.seen.bt hk).ne hb.gbt (by decide))
    · exact h.dq i _ hi k hk q
  · rcases key j e he with ⟨hij, he⟩ | ⟨_, rfl⟩
    · exact h.dq j e he k hk hr
    · rcases hnew k hr with hr | hr
      · exact h.dq i _ hi k hk hr
      · have := (h.seen.bt hk).lt; omega
end
/-- a step of a script, at one of several bags -/
theorem sys_one {w0 w : World} {l : List En} {rq : Option Nat} {vq : Value} {q : List Pk} {g : Nat} {rb : Option Nat} {s : St} {b : Int} (h : Sys w0 w l rq vq q) (i : Nat) (hi : l[i]? = some ⟨g, rb, s⟩) (hok : Okk b s) (hb : b ≤ 4611686018427387904)
    (o : OpV) (A : Option Addr) (c : Nat) (hA : BR Any w A o.data) (hd : o.data.length ≤ 140737488355328) :
    Calls Try.prog 19 #[.pointer (some ⟨g, 0, none⟩), .agg (o.cells A c).toArray] w fun e w' => ∃ rb', e = .returned (.int .i64 (oneS s o).2) ∧ Sys w0 w' (l.set i ⟨g, rb', (oneS s o).1⟩) rq vq q :=
  (one (H := No) o A c w hA hd (fun _ _ q => q) (h.bag i _ hi) hok hb).mono fun e w' ⟨rb', he, hB, hF, hn⟩ => ⟨rb', he, h.step i hi hB hF hn⟩
def runS (s : St) (l : List OpV) : St := l.foldl (fun s o => (oneS s o).1) s
theorem run_take (s : St) (l : List OpV) (k : Nat) (o : OpV) (h : l[k]? = some o) : runS s (l.take (k + 1)) = (oneS (runS s (l.take k)) o).1 := by
  unfold runS
  obtain ⟨hl, he⟩ := List.getElem?_eq_some_iff.1 h
  rw [List.take_add_one, h, List.foldl_append]
  rfl
end Go.Proofs.Ytilpffolldegbaa.Bg
