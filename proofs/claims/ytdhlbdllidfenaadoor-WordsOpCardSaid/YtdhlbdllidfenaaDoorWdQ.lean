/- Words: texts (are two lists the same?) and round (a list the other way round), walked; a list that came in. Conditions: none. -/
import Derived.Test.YtdhlbdllidfenaaDoorWdN
import Derived.Test.YtdhlbdllidfenaaDoorOpn
namespace Go.Proofs.YtdhlbdllidfenaaDoor.Opn
open Go.ChangeShapes Go.WideShapes Go.ChangeAt Go.RowKit Go.Deep Go.Proofs.YtdhlbdllidfenaaDoor.Mem
theorem strs {H : Type} {enc : TypeId × Value → H} {W : World} {A : Option Addr} {len cap : Nat} {dd : DataW H} {ps : List MemPlace} (hS : Sz Tryd.prog 26 dd) (h : DataW.Trod enc Tryd.prog W 0 (fun _ => true) true 26 (.slice A len cap) dd ps) :
    ∃ xs : List (List UInt8), xs.length = len ∧ (Wd.TR Any W A xs ∧ ∀ x ∈ xs, x.length ≤ 140737488351232) ∧ len ≤ cap ∧ cap * 16 ≤ 140737488351232 := by
  obtain ⟨xs, h1, h2, h3, h4, _⟩ := slice_gen 1 (fun (b : List UInt8) cs => cs = [Wd.sv b] ∧ b.length ≤ 140737488351232) [] Tryd.underlying26 (by kernel_rfl) (fun n cs x hl hsz hx => by
    obtain ⟨s, q0, q1, _⟩ := DataW.trod_string Tryd.underlying9 hx
    refine ⟨Wd.bs s, ?_, ?_⟩
    · rw [Wd.sv_bs]; exact q0
    · rw [q1] at hsz
      have := sz_str hsz
      exact this) hS h
  rw [show Tryd.prog.bytesOf 9 = 16 by kernel_rfl] at h4
  refine ⟨xs, h1, ⟨fun j u hj => ?_, fun x hx => ?_⟩, h3, h4⟩
  · obtain ⟨a, cs, hA, _, ⟨rfl, _⟩, hcell⟩ := h2 j u hj
    exact ⟨a, hA, trivial, by have := hcell 0 _ rfl; rwa [Nat.mul_one, Nat.add_zero] at this⟩
  · obtain ⟨j, hj⟩ := List.mem_iff_getElem?.1 hx
    obtain ⟨a, cs, hA, _, ⟨_, h⟩, _⟩ := h2 j x hj
    exact h
end Go.Proofs.YtdhlbdllidfenaaDoor.Opn
namespace Go.Proofs.YtdhlbdllidfenaaDoor.Wd
open Go.RowKit Go.Proofs.YtdhlbdllidfenaaDoor.Mem
set_option linter.unusedVariables false
set_option linter.unusedSimpArgs false
theorem mk_inj {a b : List UInt8} : ((⟨a.toArray⟩ : ByteArray) = ⟨b.toArray⟩) ↔ a = b := ⟨fun h => by
  have := congrArg (fun x : ByteArray => x.data.toList) h
  simpa using this, fun h => by rw [h]⟩
theorem take_eq {x y : List (List UInt8)} {k : Nat} (hx : k < x.length) (hy : k < y.length) (h : x.take k = y.take k) (he : x[k] = y[k]) : x.take (k + 1) = y.take (k + 1) := by
  rw [List.take_succ_eq_append_getElem hx, List.take_succ_eq_append_getElem hy, h, he]
set_option maxHeartbeats 4000000 in
set_option maxRecDepth 100000 in
theorem wTexts (A B : Option Addr) (n c m d : Nat) (x y : List (List UInt8)) (hx : x.length = n) (hy : y.length = m) (hn : n ≤ 4611686018427387904) (w : World) (hA : TR Any w A x) (hB : TR Any w B y) :
    Calls Tryd.prog 21 #[.slice A n c, .slice B m d] w fun e w' => e = .returned (.bool (decide (x = y))) ∧ Fr No w w' := by
  by_cases hnm : n = m
  · subst hnm
    have HA := Lib.hid hA
    have HB := Lib.hid hB
    have HX := Lib.hid hx
    have HY := Lib.hid hy
    clear hA hB hx hy
    go_enter Tryd.func21, Tryd.ntmps21
    go_wp2
    go_loopw [13] (fun i wr => ∃ k : Nat, k ≤ n ∧ i = .int .i64 (k : Int) ∧ Hid (x.take k = y.take k) ∧ Hid (Fr No w wr)) (fun i _ => n - (intOf i).toNat)
    case atStart => exact ⟨0, Nat.zero_le _, rfl, rfl, Fr.refl _ _⟩
    case round =>
      obtain ⟨k, hk, rfl, HE, HF⟩ := hrel
      have hw : IntKind.i64.wrap ((k : Int) + 1) = (k : Int) + 1 := IntWalk.i64_in _ (by omega)
      by_cases hlt : k < n
      · have hki : (k : Int) < (n : Int) := by omega
        have dk : decide ((k : Int) < (n : Int)) = true := decide_eq_true hki
        have dk' : decide (k < n) = true := decide_eq_true hlt
        have hkx : k < x.length := by rw [HX.out]; exact hlt
        have hky : k < y.length := by rw [HY.out]; exact hlt
        obtain ⟨a, ha, ca⟩ := (HA.out.fr HF.out (fun _ _ _ q => q)).at_ k hkx
        obtain ⟨b, hb, cb⟩ := (HB.out.fr HF.out (fun _ _ _ q => q)).at_ k hky
        subst ha hb
        have HN := Lib.hid (fun h => take_eq hkx hky HE.out h)
        have HN2 := Lib.hid (show x = y → x[k] = y[k] from fun h => by subst h; rfl)
        generalize x[k] = u at *
        generalize y[k] = v at *
        obtain ⟨p, hp⟩ : ∃ p : ByteArray, (⟨u.toArray⟩ : ByteArray) = p := ⟨_, rfl⟩
        obtain ⟨q, hq⟩ : ∃ q : ByteArray, (⟨v.toArray⟩ : ByteArray) = q := ⟨_, rfl⟩
        have HPQ := Lib.hid (show p = q ↔ u = v by rw [← hp, ← hq]; exact mk_inj)
        unfold sv at ca cb
        rw [hp] at ca
        rw [hq] at cb
        clear hp hq hkx hky
        by_cases he : u = v
        · have e1 : p = q := HPQ.out.2 he
          subst e1
          have HE2 := Lib.hid (HN.out he)
          clear HPQ he HN HN2 HE
          go_wp2
          go_quiet (fail)
          go_wp2
          go_roundw
          case rel => exact ⟨k + 1, by omega, by go_num, HE2, HF.out.drewN _⟩
          case measure => simp [intOf]; omega
        · have e2 : (p.toList == q.toList) = false := by
            rw [beq_eq_false_iff_ne]
            intro e
            refine he (HPQ.out.1 ?_)
            rw [ByteArray.toList_eq, ByteArray.toList_eq] at e
            cases p; cases q
            simp_all
          have HD := Lib.hid (show decide (x = y) = false from decide_eq_false (fun h => he (HN2.out h)))
          clear HPQ he HN HN2 HE
          go_wp2
          go_quiet (fail)
          go_wp2
          go_ret
          exact ⟨by rw [HD.out]; rfl, HF.out.drewN _⟩
      · obtain rfl : k = n := by omega
        have dk : decide ((k : Int) < (k : Int)) = false := decide_eq_false (by omega)
        have dk' : decide (k < k) = false := decide_eq_false (by omega)
        have HD := Lib.hid (show decide (x = y) = true from decide_eq_true (by
          have := HE.out
          rwa [List.take_of_length_le (by rw [HX.out]; exact Nat.le_refl _), List.take_of_length_le (by rw [HY.out]; exact Nat.le_refl _)] at this))
        go_wp2
        go_ret
        exact ⟨by rw [HD.out]; rfl, HF.out⟩
  · have HD := Lib.hid (show decide (x = y) = false from decide_eq_false (fun h => hnm (by rw [← hx, ← hy, h])))
    have e1 : ((n : Int) != (m : Int)) = true := by rw [bne_iff_ne]; omega
    have e2 : (n != m) = true := by rw [bne_iff_ne]; omega
    go_enter Tryd.func21, Tryd.ntmps21
    go_wp2
    go_ret
    exact ⟨by rw [HD.out]; rfl, Fr.refl _ _⟩
end Go.Proofs.YtdhlbdllidfenaaDoor.Wd
