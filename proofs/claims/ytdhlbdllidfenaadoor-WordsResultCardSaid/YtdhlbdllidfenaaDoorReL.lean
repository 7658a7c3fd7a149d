/- Words: what Result answers, of any result, is the document's, asked again and of the items turned round; ReadResult reads it; what was handed out, and in, belongs to the caller: the walk. Conditions: the codes' words and the library's tables lie as the program's text lays them. -/
import Derived.Test.YtdhlbdllidfenaaDoorReI
import Derived.Test.YtdhlbdllidfenaaDoorReJ
import Derived.Deep.DeepCutAuto
namespace Go.Proofs.YtdhlbdllidfenaaDoor.Wd
open Go.RowKit Go.Proofs.YtdhlbdllidfenaaDoor.Mem
open Go.Proofs.YtdhlbdllidfenaaDoor.Nu (numL numE wNumber rNumber Vs num_dec num_is)
set_option linter.unusedVariables false
set_option linter.unusedSimpArgs false
theorem res_small {x : RV} (hx : ∀ y ∈ x.items, y.length ≤ 140737488351232) : ∀ y ∈ (resW x).1, y.length ≤ 140737488351232 := by
  intro y hy
  unfold resW at hy
  by_cases h : chkR x = 0
  · obtain ⟨h1, h2, h3, h4, h5, h6⟩ := chk_ok h
    rw [if_neg (fun q => q h)] at hy
    split at hy
    · simp only [List.mem_cons] at hy
      rcases hy with rfl | rfl | rfl | hy
      · simp
      · have := Nu.dec_len x.num.toNat
        omega
      · have := Nu.dec_len x.items.length
        omega
      · exact hx y hy
    · simp only [List.mem_singleton] at hy
      subst hy
      obtain ⟨k, hk⟩ : ∃ k : Nat, x.code = (k : Int) := ⟨x.code.toNat, by omega⟩
      rw [hk, Int.toNat_natCast]
      have hk5 : k < 5 := by omega
      match k, hk5 with
      | 0, _ => decide
      | 1, _ => decide
      | 2, _ => decide
      | 3, _ => decide
      | 4, _ => decide
  · rw [if_pos h] at hy
    simp at hy
theorem set3 {w : World} {bo : Nat} {a b c : Value} (h : Bk w bo 28 [a, b, c]) (x y z : Value) : Bk (((w.setCell ⟨bo, 0, none⟩ x).setCell ⟨bo, 1, none⟩ y).setCell ⟨bo, 2, none⟩ z) bo 28 [x, y, z] ∧ Fr (fun k => k = bo) w (((w.setCell ⟨bo, 0, none⟩ x).setCell ⟨bo, 1, none⟩ y).setCell ⟨bo, 2, none⟩ z) :=
  ⟨((h.set 0 x).set 1 y).set 2 z, (((Fr.refl (fun k => k = bo) w).set (p := ⟨bo, 0, none⟩) (.inl rfl) x).set (p := ⟨bo, 1, none⟩) (.inl rfl) y).set (p := ⟨bo, 2, none⟩) (.inl rfl) z⟩
theorem _root_.Go.Proofs.YtdhlbdllidfenaaDoor.Mem.Fr.trans_new {w w1 w2 : World} (h : Fr No w w1) (k : Fr (fun k => k = w.heap.size) w1 w2) : Fr No w w2 := h.trans k (fun j hj e => by omega)
theorem TBuf.earlier {w0 w1 w : World} {rb : Option Nat} {v : Value} {l : List (List UInt8)} (h : TBuf w1 w rb v l) (hf : Fr No w0 w1) : TBuf w0 w rb v l := ⟨h.1, hf.then_ h.2.1, fun k hk => Nat.le_trans hf.size (h.2.2 k hk)⟩
theorem TBuf.set_ {w0 w w1 : World} {rb : Option Nat} {v a b c : Value} {l : List (List UInt8)} (h : TBuf w0 w rb v l) (hb : Bk w w0.heap.size 28 [a, b, c]) (hf : Fr (fun k => k = w0.heap.size) w w1) : TBuf w0 w1 rb v l :=
  ⟨h.1.fr hf (fun k hk e => by subst e; exact (Row.bt h.1 hk).ne hb.bt (by decide) rfl), h.2.1.trans_new hf, h.2.2⟩
structure LawS (n0 : Nat) (w W : World) (B : Nat → Prop) (hb cnt : Nat) : Prop where
  bk : BkS B W hb cnt
  low : Below n0 w W
  nw : ∀ k, W.heap.size ≤ k → B k
  bn : ∀ k, B k → n0 ≤ k
  sz : n0 ≤ W.heap.size
section
variable {n0 hb cnt : Nat} {w W W' : World} {B : Nat → Prop}
theorem LawS.step (h : LawS n0 w W B hb cnt) {c2 : Nat} (hf : Fr B W W') (bk : BkS B W' hb c2) : LawS n0 w W' B hb c2 :=
  ⟨bk, Below.fr h.low hf h.bn h.sz, fun k hk => h.nw k (Nat.le_trans hf.size hk), h.bn, Nat.le_trans h.sz hf.size⟩
theorem LawS.no (h : LawS n0 w W B hb cnt) (hf : Fr No W W') : LawS n0 w W' B hb cnt :=
  ⟨h.bk.no hf, Below.fr0 h.low hf h.sz, fun k hk => h.nw k (Nat.le_trans hf.size hk), h.bn, Nat.le_trans h.sz hf.size⟩
/-- what is new since then is kept apart -/
theorem LawS.apart (h : LawS n0 w W B hb cnt) (hf : Fr No W W') (E : Nat → Prop) (hE : ∀ k, E k → W.heap.size ≤ k) (hE2 : ∀ k, E k → k < W'.heap.size) : LawS n0 w W' (fun k => B k ∧ ¬ E k) hb cnt :=
  ⟨(h.bk.weaken (fun k hk q => ⟨q, fun e => by have := hE k e; omega⟩)).no hf, Below.fr0 h.low hf h.sz, fun k hk => ⟨h.nw k (Nat.le_trans hf.size hk), fun e => by have := hE2 k e; omega⟩, fun k hk => h.bn k hk.1, Nat.le_trans h.sz hf.size⟩
/-- what is written lies apart -/
theorem LawS.far (h : LawS n0 w W B hb cnt) {S : Nat → Prop} (hf : Fr S W W') (hS : ∀ k, S k → ¬ B k) (hn : ∀ k, S k → n0 ≤ k) : LawS n0 w W' B hb cnt :=
  ⟨h.bk.fr hf hS, Below.fr h.low hf hn h.sz, fun k hk => h.nw k (Nat.le_trans hf.size hk), h.bn, Nat.le_trans h.sz hf.size⟩
end
set_option maxHeartbeats 40000000 in
set_option maxRecDepth 100000 in
theorem result_row (w : World) (hV : Vs w) (hC : Cd w) (x : RV) (A : Option Addr) (c : Nat) (hCl : TR Any w A x.items ∧ ∀ y ∈ x.items, y.length ≤ 140737488351232) (hlc : x.items.length ≤ c) (hby : c * 16 ≤ 140737488351232)
    (A2 : Option Addr) (c2 : Nat) (l2 : List (List UInt8)) (hCl2 : TR Any w A2 l2 ∧ ∀ y ∈ l2, y.length ≤ 140737488351232) (hlc2 : l2.length ≤ c2) (hby2 : c2 * 16 ≤ 140737488351232) :
    Calls Tryd.prog 4 #[x.v A x.items.length c, .slice A2 l2.length c2] w fun e w' => e = .returned (.bool true) ∧ Below w.heap.size w w' := by
  obtain ⟨n0, hn0⟩ : ∃ n0, w.heap.size = n0 := ⟨_, rfl⟩
  have HVB := Lib.hid (fun W (hW : Below n0 w W) => show Vs W from Vs.below hV (by rw [hn0]; exact hW))
  have HCB := Lib.hid (fun W (hW : Below n0 w W) => show Cd W from Cd.below hC (by rw [hn0]; exact hW))
  have HTB := Lib.hid (fun W (hW : Below n0 w W) => show TR (fun k => k < n0) W A x.items by have h := TR.old hCl.1 (by rw [hn0]; exact hW); rwa [hn0] at h)
  have HTB2 := Lib.hid (fun W (hW : Below n0 w W) => show TR (fun k => k < n0) W A2 l2 by have h := TR.old hCl2.1 (by rw [hn0]; exact hW); rwa [hn0] at h)
  have HX := Lib.hid hCl.2
  have HX2 := Lib.hid hCl2.2
  have hrl := res_len x
  have HRS := Lib.hid (res_small hCl.2)
  have HRB := Lib.hid (fun (h : chkR x = 0) => read_back x h l2)
  have HR0 := Lib.hid (show (resW x).2 = 0 → chkR x = 0 from fun e => by
    unfold resW at e
    by_cases h : chkR x = 0
    · exact h
    · rw [if_pos h] at e; exact e)
  obtain ⟨⟨ws, er⟩, hRW⟩ : ∃ R, resW x = R := ⟨_, rfl⟩
  rw [hRW] at hrl HRS HRB HR0
  obtain ⟨code, num, l⟩ := x
  dsimp only at *
  obtain ⟨n, hn⟩ : ∃ n, l.length = n := ⟨_, rfl⟩
  obtain ⟨n2, hn2⟩ : ∃ n2, l2.length = n2 := ⟨_, rfl⟩
  obtain ⟨L, hLw⟩ : ∃ L, ws.length = L := ⟨_, rfl⟩
  rw [hLw] at hrl HRB
  rw [hn] at hlc ⊢
  rw [hn2] at hlc2 ⊢
  rw [hn0]
  unfold RV.v
  dsimp only
  have HN := Lib.hid hn
  have HN2 := Lib.hid hn2
  have HN0 := Lib.hid hn0
  have HLW := Lib.hid hLw
  have HRW := Lib.hid hRW
  have hnb : n ≤ 8796093022000 := by omega
  obtain ⟨w3, hw3⟩ : ∃ w3, ((w.alloc (.cells #[.int .i64 code, .int .i64 num, .slice A n c] 28 (0, 0))).alloc (.cells #[.slice none 0 0, .slice none 0 0, .int .i64 0] 32 (0, 0))).alloc (.cells #[.string ⟨#[97]⟩] 9 (0, 0)) = w3 := ⟨_, rfl⟩
  have hF3 : Fr No w w3 := by rw [← hw3]; exact (((Fr.refl _ _).alloc _).alloc _).alloc _
  obtain ⟨hb, hhb⟩ : ∃ hb, n0 + 1 = hb := ⟨_, rfl⟩
  obtain ⟨ga, hga⟩ : ∃ ga, hb + 1 = ga := ⟨_, rfl⟩
  have hsz1 : (w.alloc (.cells #[.int .i64 code, .int .i64 num, .slice A n c] 28 (0, 0))).heap.size = hb := by simp [hn0, hhb]
  have hsz2 : ((w.alloc (.cells #[.int .i64 code, .int .i64 num, .slice A n c] 28 (0, 0))).alloc (.cells #[.slice none 0 0, .slice none 0 0, .int .i64 0] 32 (0, 0))).heap.size = ga := by rw [← hga, ← hhb]; simp [hn0]
  have hsz3 : w3.heap.size = ga + 1 := by rw [← hw3, ← hga, ← hhb]; simp [hn0]
  have HBX3 := Lib.hid (show Bk w3 n0 28 [.int .i64 code, .int .i64 num, .slice A n c] by rw [← hw3, ← hn0]; exact ((Bk.new w 28 [.int .i64 code, .int .i64 num, .slice A n c]).alloc _).alloc _)
  have HK3 := Lib.hid (show Bk w3 hb 32 [.slice none 0 0, .slice none 0 0, .int .i64 ((0 : Nat) : Int)] by rw [← hw3, ← hsz1]; exact (Bk.new _ 32 [.slice none 0 0, .slice none 0 0, .int .i64 ((0 : Nat) : Int)]).alloc _)
  have HA3 := Lib.hid (show Bk w3 ga 9 ([[97]].map sv) by rw [← hw3, ← hsz2]; exact Bk.new _ 9 ([[97]].map sv))
  have HF3 := Lib.hid hF3
  have HW3 := Lib.hid hw3
  have HLN := Lib.hid (wLent (some ⟨ga, 0, none⟩) 1 1 [[97]] rfl (by omega) w3 (Bk.texts HA3.out Any trivial))
  have HHB := Lib.hid hhb
  have HGA := Lib.hid hga
  have hlt1 : n0 < hb := by omega
  have hlt2 : hb < ga := by omega
  clear hF3 hw3 hsz1 hsz2 hn hn2 hLw hRW hV hC hCl hCl2 hn0 hhb hga
  go_enter Tryd.func4, Tryd.ntmps4
  go_wp2_with fail
  rw [HW3.out, HN0.out, HHB.out, HGA.out]
  refine HLN.out.mono ?_
  rintro e w4 ⟨gl, dl, rfl, hL4, hF4, hgl⟩
  obtain ⟨w5, hw5⟩ : ∃ w5, w4.alloc (.cells #[.string ⟨#[97]⟩] 9 (0, 0)) = w5 := ⟨_, rfl⟩
  obtain ⟨gc, hgc⟩ : ∃ gc, w4.heap.size = gc := ⟨_, rfl⟩
  have hgl4 : gl < w4.heap.size := by obtain ⟨sp, q, _⟩ := hL4; exact q.lt
  have hF45 : Fr No w4 w5 := by rw [← hw5]; exact (Fr.refl _ _).alloc _
  have hsz5 : w5.heap.size = gc + 1 := by rw [← hw5, ← hgc]; simp
  have hC5 : Bk w5 gc 9 ([[97]].map sv) := by rw [← hw5, ← hgc]; exact Bk.new w4 9 ([[97]].map sv)
  have HB5 := Lib.hid (show Below n0 w w5 from by rw [← HN0.out]; exact ((HF3.out.then_ hF4).then_ hF45).to)
  have HS5 := Lib.hid (show LawS n0 w w5 (Nw n0 [n0, ga, gl, gc]) hb 0 from ⟨BkS.first ((HK3.out.fr hF4 id).fr hF45 id) ⟨by omega, by simp; omega⟩, HB5.out, fun k hk => ⟨by omega, by simp; omega⟩, fun k hk => hk.1, by omega⟩)
  have HBX5 := Lib.hid ((HBX3.out.fr hF4 id).fr hF45 id)
  have HRA := Lib.hid (resultS (Nw n0 [n0, ga, gl, gc]) w5 hb 0 HS5.out.bk (by omega) HS5.out.nw ⟨0, 7, [[97]]⟩ gl dl (some ⟨gc, 0, none⟩) 1 1 rfl (by omega) (by unfold Nw; simp) (hL4.fr hF45 id) (Bk.texts hC5 (fun k => ¬ Nw n0 [n0, ga, gl, gc] k) (by unfold Nw; simp)) (HVB.out w5 HB5.out) (HCB.out w5 HB5.out))
  unfold RV.v at HRA
  dsimp only at HRA
  have HNX := Lib.hid (show ¬ Nw n0 [n0, ga, gl, gc] n0 by unfold Nw; simp)
  have HLO := Lib.hid (show ∀ k, k < n0 → ¬ Nw n0 [n0, ga, gl, gc] k from fun k hk q => by have := q.1; omega)
  have HGC := Lib.hid hgc
  have HW5 := Lib.hid hw5
  clear hL4 hF4 hF45 hC5 HLN HK3 HA3 HBX3 HB5 HF3 hgc hw5 hsz5 hsz3
  generalize Nw n0 [n0, ga, gl, gc] = B at *
  go_wp2_with fail
  rw [HW5.out, HGC.out]
  refine HRA.out.mono ?_
  rintro e w6 ⟨rfl, hbk6, hF6⟩
  have HS6 := Lib.hid (HS5.out.step hF6 hbk6)
  have HBX6 := Lib.hid (HBX5.out.fr hF6 HNX.out)
  have HLN := Lib.hid (fun W (hW : Fr No w6 W) => wLent A n c l HN.out hnb W ((HTB.out w6 HS6.out.low).any.fr hW (fun _ _ _ q => q)))
  clear hbk6 hF6 HS5 HBX5 HRA
  go_upto_region 4 with (fail)
  go_cut [6] (fun t wx => ∃ (bo g d : Nat), t = .pointer (some ⟨bo, 0, none⟩) ∧ Hid (w6.heap.size ≤ g ∧ w6.heap.size ≤ bo ∧ g < wx.heap.size ∧ bo < wx.heap.size) ∧ Hid (Lent wx g d l) ∧ Hid (Bk wx bo 28 [.int .i64 code, .int .i64 num, .slice (some ⟨g, 0, none⟩) n d]) ∧ Hid (Fr No w6 wx))
  case first =>
      try clear HVB
      try clear HCB
      try clear HTB
      try clear HTB2
      try clear HX
      try clear HX2
      try clear hrl
      try clear HRS
      try clear HRB
      try clear HR0
      try clear hlc
      try clear hlc2
      try clear hby
      try clear hby2
      try clear HN
      try clear HN2
      try clear HN0
      try clear HLW
      try clear HRW
      try clear hnb
      try clear HS6
      try clear HNX
      try clear HLO
      try clear HGC
      try clear HW5
      try clear HHB
      try clear HGA
      try clear hlt1
      try clear hlt2
      try clear hgl
      try clear hgl4
      try clear HW3
      try clear HS12
      try clear HBO12
      try clear HL12
      try clear HNX2
      try clear HNG
      try clear HNO
      try clear HLO2
      try clear hgbo
      try clear hgx
      try clear hgn0
      try clear hF3
      try clear er
      try clear ws
      try clear L
      obtain ⟨x0, x1, x2, xf⟩ := HBX6.out.three
      obtain ⟨a0, a1, a2, af⟩ := (HBX6.out.alloc (.cells #[.int .i64 0, .int .i64 0, .slice none 0 0] 28 (0, 0))).three
      go_region_law (first | (go_simp; go_at_call 12; refine (HLN.out _ (by first | exact (Fr.refl No _).drew | exact ((Fr.refl No _).alloc _).drew)).mono ?_; rintro e wk ⟨g, d, rfl, hL7, hF7r, hg7⟩; have hgk : w6.heap.size ≤ g := (by first | exact hg7 | exact Nat.le_of_succ_le (by simpa using hg7)); have hgl7 : g < wk.heap.size := (by (obtain ⟨sp, q, _⟩ := hL7; exact q.lt)); have hF7 : Fr No w6 wk := (by first | exact ((Fr.refl No _).drew).then_ hF7r | exact (((Fr.refl No _).alloc _).drew).then_ hF7r); obtain ⟨p0, p1, p2, pf⟩ := (HBX6.out.fr hF7 id).three; obtain ⟨b0, b1, b2, bf⟩ := ((HBX6.out.fr hF7 id).alloc (.cells #[.int .i64 0, .int .i64 0, .slice none 0 0] 28 (0, 0))).three; try (have hbo7 : Bk wk w6.heap.size 28 [.int .i64 0, .int .i64 0, .slice none 0 0] := (Bk.new w6 28 [.int .i64 0, .int .i64 0, .slice none 0 0]).fr (((Fr.refl No (w6.alloc (.cells #[.int .i64 0, .int .i64 0, .slice none 0 0] 28 (0, 0)))).drew).then_ hF7r) id; obtain ⟨z0, z1, z2, zf⟩ := hbo7.three)))
      all_goals
        clear x0 x1 x2 xf a0 a1 a2 af p0 p1 p2 pf b0 b1 b2 bf
        go_wp2_with fail
        go_meet
        first
          | exact ⟨wk.heap.size, g, d, rfl, ⟨hgk, hF7.size, Nat.lt_trans hgl7 (Nat.lt_of_lt_of_eq (Nat.lt_succ_self _) (by simp)), by simp⟩, hL7.fr ((Fr.refl No wk).alloc _) id, Bk.new wk 28 [.int .i64 code, .int .i64 num, .slice (some ⟨g, 0, none⟩) n d], hF7.alloc _⟩
          | exact ⟨w6.heap.size, g, d, rfl, ⟨hgk, Nat.le_refl _, Nat.lt_of_lt_of_le hgl7 (set3 hbo7 (.int .i64 code) (.int .i64 num) (.slice (some ⟨g, 0, none⟩) n d)).2.size, (set3 hbo7 (.int .i64 code) (.int .i64 num) (.slice (some ⟨g, 0, none⟩) n d)).1.lt⟩, hL7.fr (set3 hbo7 (.int .i64 code) (.int .i64 num) (.slice (some ⟨g, 0, none⟩) n d)).2 (fun e => by subst e; obtain ⟨sp, q, _⟩ := hL7; exact q.bt.ne hbo7.bt (by decide) rfl), (set3 hbo7 (.int .i64 code) (.int .i64 num) (.slice (some ⟨g, 0, none⟩) n d)).1, hF7.trans_new (set3 hbo7 (.int .i64 code) (.int .i64 num) (.slice (some ⟨g, 0, none⟩) n d)).2⟩
  case rest =>
    obtain ⟨bo, g, d, rfl, HSZ, HL8, HBO8, HF8⟩ := hcut
    obtain ⟨hs1, hs2, hs3, hs4⟩ := HSZ.out
    have hgbo : g ≠ bo := fun e => by subst e; obtain ⟨sp, q, _⟩ := HL8.out; exact q.bt.ne HBO8.out.bt (by decide) rfl
    obtain ⟨B2, hB2⟩ : ∃ B2 : Nat → Prop, B2 = fun k => B k ∧ ¬ (k = g ∨ k = bo) := ⟨_, rfl⟩
    have HS8 := Lib.hid (show LawS n0 w wc B2 hb 1 by rw [hB2]; exact HS6.out.apart HF8.out (fun k => k = g ∨ k = bo) (fun k hk => by rcases hk with rfl | rfl <;> assumption) (fun k hk => by rcases hk with rfl | rfl <;> assumption))
    have hgx : g ≠ n0 := fun e => by subst e; obtain ⟨sp, q, _⟩ := HL8.out; exact q.bt.ne (HBX6.out.fr HF8.out id).bt (by decide) rfl
    have hgn0 : n0 ≤ g := by have := HS6.out.sz; omega
    have HBX8 := Lib.hid (HBX6.out.fr HF8.out id)
    have HNX2 := Lib.hid (show ¬ B2 n0 by rw [hB2]; exact fun q => HNX.out q.1)
    have HNG := Lib.hid (show ¬ B2 g by rw [hB2]; exact fun q => q.2 (.inl rfl))
    have HNO := Lib.hid (show ¬ B2 bo by rw [hB2]; exact fun q => q.2 (.inr rfl))
    have HLO2 := Lib.hid (show ∀ k, k < n0 → ¬ B2 k by rw [hB2]; exact fun k hk q => HLO.out k hk q.1)
    clear HS6 HBX6 HNX HLO hs1 hs2 hs3 hs4 HSZ HF8 HLN
    clear hB2
    have step : ∀ W cnt, cnt ≤ 1000 → LawS n0 w W B2 hb cnt → Lent W g d l → Calls Tryd.prog 11 #[.pointer (some ⟨hb, 0, none⟩), .agg #[.int .i64 code, .int .i64 num, .slice (some ⟨g, 0, none⟩) n d], .agg #[.int .i64 code, .int .i64 num, .slice A n c]] W fun e w' => e = .returned (.bool true) ∧ BkS B2 w' hb (cnt + 1) ∧ Fr B2 W w' := fun W cnt hc hS hL => by
      have h := resultS B2 W hb cnt hS.bk hc hS.nw ⟨code, num, l⟩ g d A n c HN.out hnb HNG.out hL ((HTB.out W hS.low).imp HLO2.out) (HVB.out W hS.low) (HCB.out W hS.low)
      exact h
    have HSTEP := Lib.hid step
    clear step
    have HR1 := Lib.hid (HSTEP.out wc 1 (by omega) HS8.out HL8.out)
    obtain ⟨x0, x1, x2, xf⟩ := HBX8.out.three
    obtain ⟨y0, y1, y2, yf⟩ := HBO8.out.three
    go_wp2_with fail
    refine HR1.out.mono ?_
    rintro e w9 ⟨rfl, hbk9, hF9⟩
    have HS9 := Lib.hid (HS8.out.step hF9 hbk9)
    have HBX9 := Lib.hid (HBX8.out.fr hF9 HNX2.out)
    have HBO9 := Lib.hid (HBO8.out.fr hF9 HNO.out)
    have HL9 := Lib.hid (HL8.out.fr hF9 HNG.out)
    clear hbk9 hF9 x0 x1 x2 xf y0 y1 y2 yf HS8 HBX8 HBO8 HL8 HR1
    have HR1 := Lib.hid (HSTEP.out w9 2 (by omega) HS9.out HL9.out)
    obtain ⟨x0, x1, x2, xf⟩ := HBX9.out.three
    obtain ⟨y0, y1, y2, yf⟩ := HBO9.out.three
    go_wp2_with fail
    refine HR1.out.mono ?_
    rintro e w10 ⟨rfl, hbk10, hF10⟩
    have HS10 := Lib.hid (HS9.out.step hF10 hbk10)
    have HBX10 := Lib.hid (HBX9.out.fr hF10 HNX2.out)
    have HBO10 := Lib.hid (HBO9.out.fr hF10 HNO.out)
    have HL10 := Lib.hid (HL9.out.fr hF10 HNG.out)
    clear hbk10 hF10 x0 x1 x2 xf y0 y1 y2 yf HS9 HBX9 HBO9 HL9 HR1
    have HW1 := Lib.hid (writeS B2 w10 hb 3 HS10.out.bk (by omega) HS10.out.nw)
    go_wp2_with fail
    refine HW1.out.mono ?_
    rintro e w11 ⟨rfl, hbk11, hF11⟩
    have HS11 := Lib.hid (HS10.out.step hF11 hbk11)
    have HBX11 := Lib.hid (HBX10.out.fr hF11 HNX2.out)
    have HBO11 := Lib.hid (HBO10.out.fr hF11 HNO.out)
    have HL11 := Lib.hid (HL10.out.fr hF11 HNG.out)
    clear hbk11 hF11 HS10 HBX10 HBO10 HL10 HW1
    have HR1 := Lib.hid (HSTEP.out w11 6 (by omega) HS11.out HL11.out)
    obtain ⟨x0, x1, x2, xf⟩ := HBX11.out.three
    obtain ⟨y0, y1, y2, yf⟩ := HBO11.out.three
    go_wp2_with fail
    refine HR1.out.mono ?_
    rintro e w12 ⟨rfl, hbk12, hF12⟩
    have HS12 := Lib.hid (HS11.out.step hF12 hbk12)
    have HBX12 := Lib.hid (HBX11.out.fr hF12 HNX2.out)
    have HBO12 := Lib.hid (HBO11.out.fr hF12 HNO.out)
    have HL12 := Lib.hid (HL11.out.fr hF12 HNG.out)
    clear hbk12 hF12 x0 x1 x2 xf y0 y1 y2 yf HS11 HBX11 HBO11 HL11 HR1 HSTEP
    have HRO := Lib.hid (fun W (hW : Fr No w12 W) => wRound A n c l HN.out hnb W ((HTB.out w12 HS12.out.low).any.fr hW (fun _ _ _ q => q)))
    go_upto_region 7 with (fail)
    go_cut [7] (fun t wx => ∃ (bt : Nat) (At : Option Addr) (ct : Nat) (rbt : Option Nat), t = .pointer (some ⟨bt, 0, none⟩) ∧ Hid (w12.heap.size ≤ bt ∧ bt < wx.heap.size) ∧ Hid (TBuf w12 wx rbt (.slice At n ct) l.reverse) ∧ Hid (Bk wx bt 28 [.int .i64 code, .int .i64 num, .slice At n ct]) ∧ Hid (Fr No w12 wx))
    case first =>
        try clear HVB
        try clear HCB
        try clear HTB
        try clear HTB2
        try clear HX
        try clear HX2
        try clear hrl
        try clear HRS
        try clear HRB
        try clear HR0
        try clear hlc
        try clear hlc2
        try clear hby
        try clear hby2
        try clear HN
        try clear HN2
        try clear HN0
        try clear HLW
        try clear HRW
        try clear hnb
        try clear HS6
        try clear HNX
        try clear HLO
        try clear HGC
        try clear HW5
        try clear HHB
        try clear HGA
        try clear hlt1
        try clear hlt2
        try clear hgl
        try clear hgl4
        try clear HW3
        try clear HS12
        try clear HBO12
        try clear HL12
        try clear HNX2
        try clear HNG
        try clear HNO
        try clear HLO2
        try clear hgbo
        try clear hgx
        try clear hgn0
        try clear hF3
        try clear er
        try clear ws
        try clear L
        obtain ⟨x0, x1, x2, xf⟩ := HBX12.out.three
        obtain ⟨a0, a1, a2, af⟩ := (HBX12.out.alloc (.cells #[.int .i64 0, .int .i64 0, .slice none 0 0] 28 (0, 0))).three
        go_region_law (first | (go_simp; go_at_call 14; refine (HRO.out _ (by first | exact (Fr.refl No _).drew | exact ((Fr.refl No _).alloc _).drew)).mono ?_; rintro e wk ⟨At, ct, rbt, rfl, hT7q⟩; have hT7 := Lib.hid hT7q; have hF7r := hT7q.2.1; clear hT7q; have hF7 : Fr No w12 wk := (by first | exact ((Fr.refl No _).drew).then_ hF7r | exact (((Fr.refl No _).alloc _).drew).then_ hF7r); obtain ⟨p0, p1, p2, pf⟩ := (HBX12.out.fr hF7 id).three; obtain ⟨b0, b1, b2, bf⟩ := ((HBX12.out.fr hF7 id).alloc (.cells #[.int .i64 0, .int .i64 0, .slice none 0 0] 28 (0, 0))).three; try (have hbo7 : Bk wk w12.heap.size 28 [.int .i64 0, .int .i64 0, .slice none 0 0] := (Bk.new w12 28 [.int .i64 0, .int .i64 0, .slice none 0 0]).fr (((Fr.refl No (w12.alloc (.cells #[.int .i64 0, .int .i64 0, .slice none 0 0] 28 (0, 0)))).drew).then_ hF7r) id; obtain ⟨z0, z1, z2, zf⟩ := hbo7.three)))
        all_goals
          clear x0 x1 x2 xf a0 a1 a2 af p0 p1 p2 pf b0 b1 b2 bf
          go_wp2_with fail
          go_meet
          first
            | exact ⟨wk.heap.size, At, ct, rbt, rfl, ⟨hF7.size, by simp⟩, (show TBuf w12 wk rbt (.slice At n ct) l.reverse from (by first | exact hT7.out | exact hT7.out.earlier ((Fr.refl No _).drew) | exact hT7.out.earlier (((Fr.refl No _).alloc _).drew))).quiet ((Fr.refl No wk).alloc _), Bk.new wk 28 [.int .i64 code, .int .i64 num, .slice At n ct], hF7.alloc _⟩
            | exact ⟨w12.heap.size, At, ct, rbt, rfl, ⟨Nat.le_refl _, (set3 hbo7 (.int .i64 code) (.int .i64 num) (.slice At n ct)).1.lt⟩, TBuf.set_ (show TBuf w12 wk rbt (.slice At n ct) l.reverse from (by first | exact hT7.out | exact hT7.out.earlier ((Fr.refl No _).drew) | exact hT7.out.earlier (((Fr.refl No _).alloc _).drew))) hbo7 (set3 hbo7 (.int .i64 code) (.int .i64 num) (.slice At n ct)).2, (set3 hbo7 (.int .i64 code) (.int .i64 num) (.slice At n ct)).1, hF7.trans_new (set3 hbo7 (.int .i64 code) (.int .i64 num) (.slice At n ct)).2⟩
    case rest =>
      obtain ⟨bt, At, ct, rbt, rfl, HSZ, HT13, HBT13, HF13⟩ := hcut
      obtain ⟨hs1, hs2⟩ := HSZ.out
      have hct : n ≤ ct := by
        obtain ⟨A', c', hv, hle⟩ := HT13.out.1.val
        injection hv with _ e2 e3
        omega
      have HRL := Lib.hid (show l.reverse.length = n by rw [List.length_reverse]; exact HN.out)
      have HTN := Lib.hid (show ∀ k, rbt = some k → w12.heap.size ≤ k from HT13.out.2.2)
      obtain ⟨B3, hB3⟩ : ∃ B3 : Nat → Prop, B3 = fun k => B2 k ∧ ¬ (rbt = some k ∨ k = bt) := ⟨_, rfl⟩
      have hE1 : ∀ k, (rbt = some k ∨ k = bt) → w12.heap.size ≤ k := fun k hk => by
        rcases hk with hk | rfl
        · exact HTN.out k hk
        · exact hs1
      have hE2 : ∀ k, (rbt = some k ∨ k = bt) → k < wc.heap.size := fun k hk => by
        rcases hk with hk | rfl
        · exact Row.lt HT13.out.1 hk
        · exact hs2
      have HS13 := Lib.hid (show LawS n0 w wc B3 hb 7 by rw [hB3]; exact HS12.out.apart HF13.out (fun k => rbt = some k ∨ k = bt) hE1 hE2)
      clear hE1 hE2
      have HBX13 := Lib.hid (HBX12.out.fr HF13.out id)
      have HBO13 := Lib.hid (HBO12.out.fr HF13.out id)
      have HL13 := Lib.hid (HL12.out.fr HF13.out id)
      have HNX3 := Lib.hid (show ¬ B3 n0 by rw [hB3]; exact fun q => HNX2.out q.1)
      have HNG3 := Lib.hid (show ¬ B3 g by rw [hB3]; exact fun q => HNG.out q.1)
      have HNO3 := Lib.hid (show ¬ B3 bo by rw [hB3]; exact fun q => HNO.out q.1)
      have HNT3 := Lib.hid (show ∀ k, (rbt = some k ∨ k = bt) → ¬ B3 k by rw [hB3]; exact fun k hk q => q.2 hk)
      have HLO3 := Lib.hid (show ∀ k, k < n0 → ¬ B3 k by rw [hB3]; exact fun k hk q => HLO2.out k hk q.1)
      have HR13 := Lib.hid (HT13.out.row HRL.out (Fr.refl No wc))
      have hgl13 : g < w12.heap.size := by obtain ⟨sp, q, _⟩ := HL12.out; exact q.lt
      have HGT := Lib.hid (show ¬ rbt = some g from fun e => by have := HTN.out g e; omega)
      have HGB := Lib.hid (show n0 ≤ g from hgn0)
      have HGE := Lib.hid (show g ≠ bo from hgbo)
      have HGE2 := Lib.hid (show g ≠ bt from fun e => by omega)
      have HGX := Lib.hid (show g ≠ n0 from hgx)
      clear HS12 HBX12 HBO12 HL12 HF13 HRO HNX2 HNG HNO HLO2 hs1 hs2 HSZ
      clear hB3
      obtain ⟨x0, x1, x2, xf⟩ := HBO13.out.three
      obtain ⟨y0, y1, y2, yf⟩ := HBT13.out.three
      obtain ⟨sp, hBG, hl1, hl2, hl3⟩ := HL13.out
      rw [HN.out] at hl1 hl3
      have HBG := Lib.hid hBG
      have HSP := Lib.hid hl3
      clear hBG hl3
      go_upto_region 9 with (refine wl_copy wc rfl (.tmp 63) (.tmp 65) 26 26 rfl 9 Tryd.underlying26 infoS1 g 0 n d At n ct rfl rfl 9 _ HBG.out (l.reverse.map sv) (by rw [List.length_map, HRL.out]; exact (Nat.min_self n).symm) (fun h => (Row.tr (D := Any) HR13.out (fun _ _ => trivial)).cells (by rw [List.length_map] at h; exact h)) (by rw [List.length_map, HRL.out, List.length_append, List.length_map, List.length_append, HN.out]; omega) (sv_one _) ?_; intro w14 hB14 hF14)
      have HL14 := Lib.hid (Lent.swap (m := l.reverse) (l := l) (sp := sp) (c := d) (by rw [HN.out]; exact HRL.out) rfl hB14 (by rw [HN.out]; exact hl1) hl2 (by rw [HN.out]; exact HSP.out))
      have HS14 := Lib.hid (HS13.out.far hF14 (fun k hk q => by subst hk; exact HNG3.out q) (fun k hk => by subst hk; exact HGB.out))
      have HBX14 := Lib.hid (HBX13.out.fr hF14 (fun e => HGX.out e.symm))
      have HBO14 := Lib.hid (HBO13.out.fr hF14 (fun e => HGE.out e.symm))
      have HBT14 := Lib.hid (HBT13.out.fr hF14 (fun e => HGE2.out e.symm))
      have HR14 := Lib.hid (HR13.out.fr hF14 (fun k hk e => HGT.out (by rw [← e]; exact hk)))
      have HRA := Lib.hid (resultS B3 w14 hb 7 HS14.out.bk (by omega) HS14.out.nw ⟨code, num, l.reverse⟩ g d At n ct HRL.out hnb HNG3.out HL14.out (Row.tr (D := fun k => ¬ B3 k) HR14.out (fun k hk => HNT3.out k (.inl hk))) (HVB.out w14 HS14.out.low) (HCB.out w14 HS14.out.low))
      unfold RV.v at HRA
      dsimp only at HRA
      clear hB14 hF14 x0 x1 x2 xf y0 y1 y2 yf HBG HSP HS13 HBX13 HBO13 HBT13 HR13 HL13
      obtain ⟨x0, x1, x2, xf⟩ := HBO14.out.three
      obtain ⟨y0, y1, y2, yf⟩ := HBT14.out.three
      go_wp2_with fail
      refine HRA.out.mono ?_
      rintro e w15 ⟨rfl, hbk15, hF15⟩
      have HS15 := Lib.hid (HS14.out.step hF15 hbk15)
      have HBX15 := Lib.hid (HBX14.out.fr hF15 HNX3.out)
      clear hbk15 hF15 x0 x1 x2 xf y0 y1 y2 yf HS14 HBX14 HBO14 HBT14 HR14 HL14 HRA
      have HW1 := Lib.hid (writeS B3 w15 hb 8 HS15.out.bk (by omega) HS15.out.nw)
      go_wp2_with fail
      refine HW1.out.mono ?_
      rintro e w16 ⟨rfl, hbk16, hF16⟩
      have HS16 := Lib.hid (HS15.out.step hF16 hbk16)
      have HBX16 := Lib.hid (HBX15.out.fr hF16 HNX3.out)
      clear hbk16 hF16 HS15 HBX15 HW1
      have HRR := Lib.hid (rResult ⟨code, num, l⟩ A n c HN.out hnb w16 (HTB.out w16 HS16.out.low).any)
      rw [HRW.out] at HRR
      unfold Res RV.v at HRR
      dsimp only at HRR
      rw [HLW.out] at HRR
      obtain ⟨x0, x1, x2, xf⟩ := HBX16.out.three
      go_wp2_with fail
      refine HRR.out.mono ?_
      rintro e w17 ⟨A17, c17, rb17, rfl, hT17⟩
      have HT17 := Lib.hid hT17
      have HS17 := Lib.hid (HS16.out.no hT17.2.1)
      have HBX17 := Lib.hid (HBX16.out.fr hT17.2.1 id)
      clear hT17 x0 x1 x2 xf HS16 HBX16 HRR
      by_cases her : er = 0
      · subst her
        have HRB2 := Lib.hid (HRB.out (HR0.out rfl))
        have HLL := Lib.hid (show (ws ++ l2).length = L + n2 by rw [List.length_append, HLW.out, HN2.out])
        obtain ⟨q, hq⟩ : ∃ q, L + n2 = q := ⟨_, rfl⟩
        have hqb : q ≤ 8796093022000 := by omega
        have HXX := Lib.hid (show ∀ y ∈ ws ++ l2, y.length ≤ 140737488351232 from fun y hy => by
          rcases List.mem_append.1 hy with hy | hy
          · exact HRS.out y hy
          · exact HX2.out y hy)
        have HR17 := Lib.hid (show Row w17 9 1 rb17 (.slice A17 L c17) L (ws.map sv) by have h := HT17.out.1; rw [HLW.out] at h; exact h)
        go_wp2_with (first | (at_builtin; refine wl_append _ rfl (.const (.slice none 0 0)) (.tmp 85) 26 rfl 9 _ 1 16 Tryd.underlying26 infoStr rfl (by decide) none _ 0 [] rfl (Row.nil _ _ _) A17 L c17 (ws.map sv) rfl (by rw [List.length_map, HLW.out, Nat.mul_one]) (fun h => (Row.tr (D := Any) HR17.out (fun _ _ => trivial)).cells (by rw [HLW.out]; exact h)) (sv_one _) (by unfold maxLen; omega) (by omega) ?_; intro A18 c18 w18 rb18 hr18 hF18 hn18; rw [Nat.zero_add, List.nil_append] at hr18; have HR18 := Lib.hid hr18; have hF18' : Fr No w17 w18 := (hF18.mono (fun _ _ q => by cases q)); have HN18 := Lib.hid (show ∀ k, rb18 = some k → w17.heap.size ≤ k from fun k hk => by (rcases hn18 with q | ⟨q', q, hq⟩; (rw [q] at hk; cases hk); (rw [q] at hk; cases hk; exact hq))); have HF18 := Lib.hid hF18'; have HT18 := Lib.hid (HTB2.out w18 (HS17.out.no hF18').low); clear hr18 hF18 hF18' hn18) | (at_builtin; refine wl_append _ rfl (.tmp 86) (.tmp 87) 26 rfl 9 _ 1 16 Tryd.underlying26 infoStr rfl (by decide) rb18 _ L (ws.map sv) rfl HR18.out A2 n2 c2 (l2.map sv) rfl (by rw [List.length_map, HN2.out, Nat.mul_one]) (fun h => HT18.out.cells (by rw [HN2.out]; exact h)) (sv_one _) (by unfold maxLen; omega) (by omega) ?_; intro A19 c19 w19 rb19 hr19 hF19 hn19; rw [← List.map_append] at hr19; have HR19 := Lib.hid hr19; have HF19 := Lib.hid (show Fr No w17 w19 from HF18.out.trans hF19 (fun k hk q => by have := HN18.out k q; omega)); clear hr19 hF19 hn19))
        have HS19 := Lib.hid (HS17.out.no HF19.out)
        have hr19 := HR19.out
        have hlq : (ws ++ l2).length = q := by rw [HLL.out, hq]
        rw [hq] at hr19
        have hqc : q ≤ c19 := by
          obtain ⟨A', c', hv, hle⟩ := hr19.val
          injection hv with _ e2 e3
          omega
        have HRD := Lib.hid (wReadR A19 q c19 (ws ++ l2) hlq hqc hqb HXX.out w19 (Row.tr (D := Any) hr19 (fun _ _ => trivial)) (HVB.out w19 HS19.out.low) (HCB.out w19 HS19.out.low))
        rw [HRB2.out] at HRD
        unfold Rd RV.v at HRD
        dsimp only at HRD
        rw [HN.out] at HRD
        clear hr19 hlq
        try rw [hq]
        refine HRD.out.mono ?_
        rintro e w20 ⟨A20, c20, rb20, rfl, hT20⟩
        have hF20 := hT20.2.1
        have hr20 := hT20.1
        rw [HN.out] at hr20
        obtain ⟨wx, hwx⟩ : ∃ wx, w20.alloc (.cells #[.int .i64 code, .int .i64 num, .slice A20 n c20] 28 (0, 0)) = wx := ⟨_, rfl⟩
        have hFx : Fr No w20 wx := by rw [← hwx]; exact (Fr.refl _ _).alloc _
        have hbk : Bk wx w20.heap.size 28 [.int .i64 code, .int .i64 num, .slice A20 n c20] := by rw [← hwx]; exact Bk.new w20 28 [.int .i64 code, .int .i64 num, .slice A20 n c20]
        have hF17x : Fr No w17 wx := (HF19.out.then_ hF20).then_ hFx
        have HSx := Lib.hid (HS17.out.no hF17x)
        have hbx := HBX17.out.fr hF17x id
        have HRE := Lib.hid (wResults ⟨code, num, l⟩ A20 A n c20 c HN.out hnb wx (Row.tr (D := Any) (hr20.fr hFx (fun _ _ q => q)) (fun _ _ => trivial)) (HTB.out wx HSx.out.low).any)
        unfold RV.v at HRE
        dsimp only at HRE
        obtain ⟨x0, x1, x2, xf⟩ := hbx.three
        obtain ⟨y0, y1, y2, yf⟩ := hbk.three
        clear hT20 hF20 hr20 hFx hF17x hbx hbk HRD HS19 HF19 HR19
        go_wp2_with fail
        try rw [hwx]
        refine HRE.out.mono ?_
        rintro e w21 ⟨rfl, hF21⟩
        have HS21 := Lib.hid (HSx.out.no hF21)
        clear hF21
        go_wp2
        go_ret
        exact ⟨by simp, HS21.out.low⟩
      · have e1 : (er != 0) = true := by rw [bne_iff_ne]; exact her
        go_wp2
        go_ret
        exact ⟨by simp, HS17.out.low⟩
end Go.Proofs.YtdhlbdllidfenaaDoor.Wd
