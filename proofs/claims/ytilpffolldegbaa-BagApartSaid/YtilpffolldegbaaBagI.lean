/- A bag's calls: Flip. Conditions: none. -/
import Derived.Test.YtilpffolldegbaaBagH
import Derived.Laws.BitsAllLaws
import Derived.Laws.BitsLemmas
namespace Go.Proofs.Ytilpffolldegbaa.Bg
open Go.RowKit Go.Proofs.Ytilpffolldegbaa.Mem
set_option linter.unusedVariables false
set_option linter.unusedSimpArgs false

def flipP (p : Pk) (x y : Int) : Pk := { p with data := p.data.set x.toNat (p.data.getD x.toNat 0 ^^^ UInt8.ofNat y.toNat), turned := x + 1 }
def flipS (s : St) (i x y : Int) : St × Int := match (if 0 ≤ i then s.ps[i.toNat]? else none) with
  | some p => if x < 0 ∨ (p.data.length : Int) ≤ x then (s, 153) else if y < 1 ∨ 255 < y ∨ (p.turned ≠ 0 ∧ p.turned ≠ x + 1) then (s, 154) else ({ s with ps := s.ps.set i.toNat (flipP p x y) }, 0)
  | none => (s, 152)
theorem flip_none {s : St} {i x y : Int} (hi : ¬ (0 ≤ i ∧ i < (s.ps.length : Int))) : flipS s i x y = (s, 152) := by
  unfold flipS
  split
  · rename_i p hp
    split at hp
    · have := (List.getElem?_eq_some_iff.1 hp).1
      omega
    · cases hp
  · rfl
theorem flip_some {s : St} {k : Nat} {x y : Int} (hk : k < s.ps.length) : flipS s (k : Int) x y = if x < 0 ∨ (s.ps[k].data.length : Int) ≤ x then (s, 153) else if y < 1 ∨ 255 < y ∨ (s.ps[k].turned ≠ 0 ∧ s.ps[k].turned ≠ x + 1) then (s, 154) else ({ s with ps := s.ps.set k (flipP s.ps[k] x y) }, 0) := by
  unfold flipS
  rw [if_pos (by omega), Int.toNat_natCast, List.getElem?_eq_getElem hk]
theorem bFlip_none {H : Nat → Prop} {g : Nat} {rb : Option Nat} {s : St} (i x y : Int) (w : World) (hB : Bag H w g rb s) (hi : ¬ (0 ≤ i ∧ i < (s.ps.length : Int))) :
    Calls Try.prog 11 #[.pointer (some ⟨g, 0, none⟩), .int .i64 i, .int .i64 x, .int .i64 y] w fun e w' => e = .returned (.int .i64 152) ∧ w' = w := by
  have HT := Lib.hid (bthere i w hB)
  have ht : thereS s.ps.length i = false := decide_eq_false hi
  rw [ht] at HT
  clear hB ht hi
  go_enter Try.func11, Try.ntmps11
  go_wp2_with fail
  refine HT.out.mono ?_
  rintro e w1 ⟨rfl, rfl⟩
  go_wp2
  go_ret
  exact ⟨rfl, rfl⟩
set_option maxHeartbeats 800000 in
theorem bFlip_err {H : Nat → Prop} {g : Nat} {rb : Option Nat} {s : St} (k : Nat) (x y : Int) (w : World) (hB : Bag H w g rb s) (hk : k < s.ps.length) (hn : s.ps[k].data.length ≤ 140737488355328)
    (h : (x < 0 ∨ (s.ps[k].data.length : Int) ≤ x) ∨ (y < 1 ∨ 255 < y ∨ (s.ps[k].turned ≠ 0 ∧ s.ps[k].turned ≠ x + 1))) :
    Calls Try.prog 11 #[.pointer (some ⟨g, 0, none⟩), .int .i64 (k : Int), .int .i64 x, .int .i64 y] w fun e w' => e = .returned (.int .i64 (if x < 0 ∨ (s.ps[k].data.length : Int) ≤ x then 153 else 154)) ∧ w' = w := by
  have HT := Lib.hid (bthere k w hB)
  have ht : thereS s.ps.length k = true := decide_eq_true (by omega)
  rw [ht] at HT
  obtain ⟨v, hg, hp⟩ := hB
  obtain ⟨r, rc, A, cap, hrb, rfl, hc, hl, hA, x0, x1, x2, x3, x4, x5, hfz⟩ := hp.at_ k hk
  obtain ⟨_, _, g2, _⟩ := hg.three
  have hkl : (k : Int) < (s.ps.length : Int) := by omega
  generalize s.ps[k] = p at *
  obtain ⟨num, fr, to, age, turned, data⟩ := p
  dsimp only at *
  clear hfz hA hl hg hp ht
  by_cases ha : x < 0
  · rw [if_pos (.inl ha)]
    have d1 : decide (x < 0) = true := decide_eq_true ha
    clear h
    go_enter Try.func11, Try.ntmps11
    go_wp2_with fail
    refine HT.out.mono ?_
    rintro e w1 ⟨rfl, rfl⟩
    go_wp2
    go_ret
    exact ⟨rfl, rfl⟩
  have d1 : decide (x < 0) = false := decide_eq_false ha
  by_cases hb : (data.length : Int) ≤ x
  · rw [if_pos (.inr hb)]
    have d2 : decide ((data.length : Int) ≤ x) = true := decide_eq_true hb
    clear h
    go_enter Try.func11, Try.ntmps11
    go_wp2_with fail
    refine HT.out.mono ?_
    rintro e w1 ⟨rfl, rfl⟩
    go_wp2
    go_ret
    exact ⟨rfl, rfl⟩
  have d2 : decide ((data.length : Int) ≤ x) = false := decide_eq_false hb
  rw [if_neg (by omega)]
  have h' : y < 1 ∨ 255 < y ∨ (turned ≠ 0 ∧ turned ≠ x + 1) := by
    rcases h with h | h
    · omega
    · exact h
  clear h
  by_cases hy : y < 1
  · have d3 : decide (y < 1) = true := decide_eq_true hy
    clear h'
    go_enter Try.func11, Try.ntmps11
    go_wp2_with fail
    refine HT.out.mono ?_
    rintro e w1 ⟨rfl, rfl⟩
    go_wp2
    go_ret
    exact ⟨rfl, rfl⟩
  have d3 : decide (y < 1) = false := decide_eq_false hy
  by_cases hz : 255 < y
  · have d4 : decide (255 < y) = true := decide_eq_true hz
    clear h'
    go_enter Try.func11, Try.ntmps11
    go_wp2_with fail
    refine HT.out.mono ?_
    rintro e w1 ⟨rfl, rfl⟩
    go_wp2
    go_ret
    exact ⟨rfl, rfl⟩
  have d4 : decide (255 < y) = false := decide_eq_false hz
  obtain ⟨t0, t1⟩ : turned ≠ 0 ∧ turned ≠ x + 1 := by
    rcases h' with h | h | h
    · omega
    · omega
    · exact h
  have q0 : (turned == 0) = false := by simpa using t0
  have q0' : (turned != 0) = true := by simpa using t0
  have q1 : (turned == x + 1) = false := by simpa using t1
  have q1' : (turned != x + 1) = true := by simpa using t1
  have hw : IntKind.i64.wrap (x + 1) = x + 1 := IntWalk.i64_in _ (by omega)
  clear h' t0 t1
  go_enter Try.func11, Try.ntmps11
  go_wp2_with fail
  refine HT.out.mono ?_
  rintro e w1 ⟨rfl, rfl⟩
  go_wp2
  go_ret
  exact ⟨rfl, rfl⟩

theorem xor_u8 (a : UInt8) (y : Int) (h0 : 0 ≤ y) (h1 : y ≤ 255) : bits .xor .u8 (a.toNat : Int) y = ((a ^^^ UInt8.ofNat y.toNat).toNat : Int) := by
  obtain ⟨n, rfl⟩ := Int.eq_ofNat_of_zero_le h0
  have ha := a.toNat_lt
  rw [u8_xor_nat _ _ (by omega) (by omega), Int.toNat_natCast, UInt8.toNat_xor, UInt8.toNat_ofNat']
  congr 2
  omega
set_option maxHeartbeats 800000 in
theorem bFlip_ok {H : Nat → Prop} {g : Nat} {rb : Option Nat} {s : St} (k j : Nat) (y : Int) (w : World) (hB : Bag H w g rb s) (hk : k < s.ps.length) (hn : s.ps[k].data.length ≤ 140737488355328) (hH : ∀ k, w.heap.size ≤ k → ¬ H k)
    (hj : j < s.ps[k].data.length) (hy0 : 1 ≤ y) (hy1 : y ≤ 255) (ht : s.ps[k].turned = 0 ∨ s.ps[k].turned = (j : Int) + 1) :
    Calls Try.prog 11 #[.pointer (some ⟨g, 0, none⟩), .int .i64 (k : Int), .int .i64 (j : Int), .int .i64 y] w fun e w' => e = .returned (.int .i64 0) ∧ Bag H w' g rb { s with ps := s.ps.set k (flipP s.ps[k] j y) } ∧ Fr (Sg g rb) w w' := by
  obtain ⟨room, laid, ps⟩ := s
  have HT := Lib.hid (bthere k w hB)
  have hth : thereS ps.length k = true := decide_eq_true (by dsimp only at hk; omega)
  dsimp only at *
  rw [hth] at HT
  obtain ⟨v, hg, hp⟩ := hB
  dsimp only at *
  obtain ⟨r, rc, A, cap, hrb, rfl, hc, hl, hA, x0, x1, x2, x3, x4, x5, hfz⟩ := hp.at_ k hk
  subst hrb
  obtain ⟨g0, g1, g2, gf⟩ := hg.three
  have hk' : k < ps.length := hk
  have hkl : (k : Int) < (ps.length : Int) := by omega
  have HP := Lib.hid hp
  have HG := Lib.hid hg
  have HH := Lib.hid hH
  have HPK := Lib.hid (show flipP ps[k] j y = flipP ps[k] j y from rfl)
  obtain ⟨p, hpk⟩ : ∃ p, ps[k] = p := ⟨_, rfl⟩
  have HPE := Lib.hid hpk
  rw [hpk] at x0 x1 x2 x3 x4 x5 hA hn hl hj ht ⊢
  obtain ⟨num, fr, to, age, turned, data⟩ := p
  dsimp only at x0 x1 x2 x3 x4 x5 hA hn hl hj ht
  obtain ⟨n, hn'⟩ : ∃ n, data.length = n := ⟨_, rfl⟩
  have HN := Lib.hid hn'
  rw [hn'] at hj hl hn x5
  obtain ⟨xb, hxb⟩ : ∃ xb, data[j]'(by omega) = xb := ⟨_, rfl⟩
  have HCP := Lib.hid (copied A n cap data w hn' hn hA.any)
  have HA := Lib.hid hA
  have HXB := Lib.hid (show data[j]? = some xb by rw [← hxb]; exact List.getElem?_eq_getElem _)
  have d1 : decide ((j : Int) < 0) = false := decide_eq_false (by omega)
  have d2 : decide ((n : Int) ≤ (j : Int)) = false := decide_eq_false (by omega)
  have d2' : decide (n ≤ j) = false := decide_eq_false (by omega)
  have d3 : decide (y < 1) = false := decide_eq_false (by omega)
  have d4 : decide (255 < y) = false := decide_eq_false (by omega)
  have hw : IntKind.i64.wrap ((j : Int) + 1) = (j : Int) + 1 := IntWalk.i64_in _ (by omega)
  have hwy : IntKind.u8.wrap y = y := by rw [IntKind.wrap_u8']; omega
  have hxy := xor_u8 xb y (by omega) hy1
  have hrg : ¬ g = r := fun e => (hg.bt.ne (hp.bt rfl) (by decide)) e
  have hrl := (hp.bt rfl).lt
  have hrw : r ≠ w.heap.size := by omega
  have hrw' : w.heap.size ≠ r := by omega
  have hgl := hg.lt
  have hgw : g ≠ w.heap.size := by omega
  have HH0 := Lib.hid (HH.out _ (Nat.le_refl _))
  have hji : (j : Int) < (n : Int) := by omega
  have HJ := Lib.hid hj
  have HFZ := Lib.hid hfz
  clear hfz hA hp hg hth hH hpk hn' hxb gf
  have HFIN : Hid (∀ w2 : World, Bk w2 w.heap.size 5 (bv data) → Fr No w w2 → Bag H (((w2.setCell ⟨r, k * 6 + 5, none⟩ (.slice (some ⟨w.heap.size, 0, none⟩) n n)).setCell ⟨w.heap.size, j, none⟩ (.int .u8 ((xb ^^^ UInt8.ofNat y.toNat).toNat : Int))).setCell ⟨r, k * 6 + 4, none⟩ (.int .i64 ((j : Int) + 1))) g (some r)
      ⟨room, laid, ps.set k (flipP ⟨num, fr, to, age, turned, data⟩ j y)⟩ ∧ Fr (Sg g (some r)) w (((w2.setCell ⟨r, k * 6 + 5, none⟩ (.slice (some ⟨w.heap.size, 0, none⟩) n n)).setCell ⟨w.heap.size, j, none⟩ (.int .u8 ((xb ^^^ UInt8.ofNat y.toNat).toNat : Int))).setCell ⟨r, k * 6 + 4, none⟩ (.int .i64 ((j : Int) + 1)))) := by
    intro w2 hb hF
    have hF4 : Fr (fun q => q = r) w (((w2.setCell ⟨r, k * 6 + 5, none⟩ (.slice (some ⟨w.heap.size, 0, none⟩) n n)).setCell ⟨w.heap.size, j, none⟩ (.int .u8 ((xb ^^^ UInt8.ofNat y.toNat).toNat : Int))).setCell ⟨r, k * 6 + 4, none⟩ (.int .i64 ((j : Int) + 1))) :=
      (((hF.mono (S' := fun q => q = r) (fun _ _ q => q.elim)).set (p := ⟨r, k * 6 + 5, none⟩) (.inl rfl) _).set (p := ⟨w.heap.size, j, none⟩) (.inr (Nat.le_refl _)) _).set (p := ⟨r, k * 6 + 4, none⟩) (.inl rfl) _
    refine ⟨⟨_, HG.out.fr hF4 hrg, ?_⟩, hF4.mono (fun q _ h => .inr (by rw [h]))⟩
    obtain ⟨ch, hrow, hall⟩ := HP.out
    obtain ⟨cs, hcs, A3, cap3, rfl, hl3, hb3⟩ := hall.at_ k hk'
    rw [HPE.out] at hl3 hb3 hcs
    have hlens := PR.lens hall
    have hfl := flat_len hlens
    have hin : k * 6 + 6 ≤ ps.length * 6 := by rw [← Nat.succ_mul]; exact Nat.mul_le_mul_right _ hk'
    have hchk : k < ch.length := by rw [← hall.1]; exact hk'
    have r1 := ((hrow.fr hF (fun _ _ q => q)).set rfl (k * 6 + 5) (.slice (some ⟨w.heap.size, 0, none⟩) n n) (by rw [hfl, ← hall.1]; omega))
    rw [flat_set 5 _ k _ hlens hcs (by omega)] at r1
    have r2 := r1.fr (S := fun q => q = w.heap.size) ((Fr.refl (fun q => q = w.heap.size) _).set (p := ⟨w.heap.size, j, none⟩) (.inl rfl) (.int .u8 ((xb ^^^ UInt8.ofNat y.toNat).toNat : Int))) (fun q hq e => by cases hq; exact hrw e)
    have hlens2 : ∀ c ∈ ch.set k ((Pk.cells ⟨num, fr, to, age, turned, data⟩ A3 cap3).set 5 (.slice (some ⟨w.heap.size, 0, none⟩) n n)), c.length = 6 := fun c hc => by
      rcases List.mem_or_eq_of_mem_set hc with h | h
      · exact hlens c h
      · rw [h]; rfl
    have r3 := r2.set rfl (k * 6 + 4) (.int .i64 ((j : Int) + 1)) (by rw [flat_len hlens2, List.length_set, ← hall.1]; omega)
    rw [flat_set 4 _ k _ hlens2 (List.getElem?_set_self hchk) (by omega), List.set_set] at r3
    refine ⟨_, by rw [List.length_set]; exact r3, ?_⟩
    refine All2.set (hall.imp (fun p cs h => h.fr hF4 (fun q hq h8 => by subst hq; exact absurd rfl ((hrow.bt rfl).ne h8 (by decide))))) k ?_
    refine ⟨some ⟨w.heap.size, 0, none⟩, n, ?_, ?_, ?_⟩
    · simp [Pk.cells, flipP, HN.out]
    · simp [flipP, HN.out]
    · have hb4 : Bk (((w2.setCell ⟨r, k * 6 + 5, none⟩ (.slice (some ⟨w.heap.size, 0, none⟩) n n)).setCell ⟨w.heap.size, j, none⟩ (.int .u8 ((xb ^^^ UInt8.ofNat y.toNat).toNat : Int))).setCell ⟨r, k * 6 + 4, none⟩ (.int .i64 ((j : Int) + 1))) w.heap.size 5 ((bv data).set j (.int .u8 ((xb ^^^ UInt8.ofNat y.toNat).toNat : Int))) :=
        ((hb.far (p := ⟨r, k * 6 + 5, none⟩) hrw' _).set j _).far (p := ⟨r, k * 6 + 4, none⟩) hrw' _
      have he : (bv data).set j (.int .u8 ((xb ^^^ UInt8.ofNat y.toNat).toNat : Int)) = bv (flipP ⟨num, fr, to, age, turned, data⟩ j y).data := by
        simp [flipP, bv, List.map_set, HXB.out]
      rw [he] at hb4
      exact BR.of_block hb4 ⟨hb4.bt, HH0.out⟩
  by_cases t0 : turned = 0
  · have q0 : (turned == 0) = true := by simpa using t0
    have q0' : (turned != 0) = false := by simpa using t0
    clear ht t0
    go_enter Try.func11, Try.ntmps11
    go_wp2_with fail
    refine HT.out.mono ?_
    rintro e w1 ⟨rfl, rfl⟩
    go_wp2_with fail
    refine HCP.out.mono ?_
    rintro e w2 ⟨rfl, hk2, hF2⟩
    have e5 : w2.cell? ⟨r, k * 6 + 5, none⟩ = some (.slice A n cap) := (hF2.to.cell (p := ⟨r, k * 6 + 5, none⟩) hrl).trans x5
    have e4 : w2.cell? ⟨r, k * 6 + 4, none⟩ = some (.int .i64 turned) := (hF2.to.cell (p := ⟨r, k * 6 + 4, none⟩) hrl).trans x4
    have f5 : w2.frozen? ⟨r, k * 6 + 5, none⟩ = false := (hF2.to.frozen (p := ⟨r, k * 6 + 5, none⟩) hrl).trans (HFZ.out _)
    have f4 : w2.frozen? ⟨r, k * 6 + 4, none⟩ = false := (hF2.to.frozen (p := ⟨r, k * 6 + 4, none⟩) hrl).trans (HFZ.out _)
    have fb : w2.frozen? ⟨w1.heap.size, j, none⟩ = false := hk2.free j
    have eb : w2.cell? ⟨w1.heap.size, j, none⟩ = some (.int .u8 (xb.toNat : Int)) := by rw [hk2.cell]; simp [bv, HXB.out]
    have HK2 := Lib.hid hk2
    have HF2 := Lib.hid hF2
    clear hk2 hF2 x0 x1 x2 x3 x4 x5 g0 g1 g2 HT HCP
    go_wp2
    go_ret
    exact ⟨rfl, HFIN.out w2 HK2.out HF2.out⟩
  · have q0 : (turned == 0) = false := by simpa using t0
    have q0' : (turned != 0) = true := by simpa using t0
    have t1 : turned = (j : Int) + 1 := by rcases ht with h | h; exact absurd h t0; exact h
    have q1 : (turned == (j : Int) + 1) = true := by simpa using t1
    have q1' : (turned != (j : Int) + 1) = false := by simpa using t1
    clear ht t0 t1
    go_enter Try.func11, Try.ntmps11
    go_wp2_with fail
    refine HT.out.mono ?_
    rintro e w1 ⟨rfl, rfl⟩
    go_wp2_with fail
    refine HCP.out.mono ?_
    rintro e w2 ⟨rfl, hk2, hF2⟩
    have e5 : w2.cell? ⟨r, k * 6 + 5, none⟩ = some (.slice A n cap) := (hF2.to.cell (p := ⟨r, k * 6 + 5, none⟩) hrl).trans x5
    have e4 : w2.cell? ⟨r, k * 6 + 4, none⟩ = some (.int .i64 turned) := (hF2.to.cell (p := ⟨r, k * 6 + 4, none⟩) hrl).trans x4
    have f5 : w2.frozen? ⟨r, k * 6 + 5, none⟩ = false := (hF2.to.frozen (p := ⟨r, k * 6 + 5, none⟩) hrl).trans (HFZ.out _)
    have f4 : w2.frozen? ⟨r, k * 6 + 4, none⟩ = false := (hF2.to.frozen (p := ⟨r, k * 6 + 4, none⟩) hrl).trans (HFZ.out _)
    have fb : w2.frozen? ⟨w1.heap.size, j, none⟩ = false := hk2.free j
    have eb : w2.cell? ⟨w1.heap.size, j, none⟩ = some (.int .u8 (xb.toNat : Int)) := by rw [hk2.cell]; simp [bv, HXB.out]
    have HK2 := Lib.hid hk2
    have HF2 := Lib.hid hF2
    clear hk2 hF2 x0 x1 x2 x3 x4 x5 g0 g1 g2 HT HCP
    go_wp2
    go_ret
    exact ⟨rfl, HFIN.out w2 HK2.out HF2.out⟩
/-- Flip, whatever it is handed -/
theorem bFlip {H : Nat → Prop} {g : Nat} {rb : Option Nat} {s : St} (i x y : Int) (w : World) (hB : Bag H w g rb s) (hs : Small s) (hH : ∀ k, w.heap.size ≤ k → ¬ H k) :
    Calls Try.prog 11 #[.pointer (some ⟨g, 0, none⟩), .int .i64 i, .int .i64 x, .int .i64 y] w fun e w' => e = .returned (.int .i64 (flipS s i x y).2) ∧ Bag H w' g rb (flipS s i x y).1 ∧ Fr (Sg g rb) w w' := by
  by_cases hi : 0 ≤ i ∧ i < (s.ps.length : Int)
  · obtain ⟨k, rfl⟩ := Int.eq_ofNat_of_zero_le hi.1
    have hk : k < s.ps.length := by omega
    have hn := hs s.ps[k] (List.getElem_mem _)
    rw [flip_some hk]
    by_cases h1 : x < 0 ∨ (s.ps[k].data.length : Int) ≤ x
    · rw [if_pos h1]
      refine (bFlip_err k x y w hB hk hn (.inl h1)).mono ?_
      rintro e w' ⟨rfl, rfl⟩
      exact ⟨by rw [if_pos h1], hB, Fr.refl _ _⟩
    · rw [if_neg h1]
      by_cases h2 : y < 1 ∨ 255 < y ∨ (s.ps[k].turned ≠ 0 ∧ s.ps[k].turned ≠ x + 1)
      · rw [if_pos h2]
        refine (bFlip_err k x y w hB hk hn (.inr h2)).mono ?_
        rintro e w' ⟨rfl, rfl⟩
        exact ⟨by rw [if_neg h1], hB, Fr.refl _ _⟩
      · rw [if_neg h2]
        obtain ⟨j, rfl⟩ := Int.eq_ofNat_of_zero_le (show 0 ≤ x by omega)
        exact bFlip_ok k j y w hB hk hn hH (by omega) (by omega) (by omega) (by omega)
  · rw [flip_none hi]
    refine (bFlip_none i x y w hB hi).mono ?_
    rintro e w' ⟨rfl, rfl⟩
    exact ⟨rfl, hB, Fr.refl _ _⟩
end Go.Proofs.Ytilpffolldegbaa.Bg
