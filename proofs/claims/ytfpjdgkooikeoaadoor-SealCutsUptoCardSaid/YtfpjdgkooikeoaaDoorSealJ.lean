/- The law SealSum: its walk. Conditions: none. -/
import Derived.Test.YtfpjdgkooikeoaaDoorSealI
namespace Go.Proofs.YtfpjdgkooikeoaaDoor.Sl
open Go.RowKit Go.Proofs.YtfpjdgkooikeoaaDoor.Mem
set_option linter.unusedVariables false
set_option linter.unusedSimpArgs false
theorem BR.left {D : Nat → Prop} {w : World} {A : Option Addr} {l k : List UInt8} (h : BR D w A (l ++ k)) : BR D w A l := fun j u hj => h j u (by rw [List.getElem?_append_left (List.getElem?_eq_some_iff.1 hj).1]; exact hj)
set_option maxHeartbeats 2000000 in
theorem sum_walk (A B : Option Addr) (n m c d : Nat) (x y : List UInt8) (w : World) (hx : x.length = n) (hy : y.length = m) (hn : n ≤ 140737488351232) (hm : m ≤ 140737488351232) (hA : BR Any w A x) (hB : BR Any w B y) (hT : Tab w) :
    Calls Tryd.prog 3 #[.slice A n c, .slice B m d] w fun e w' => e = .returned (.bool true) ∧ Fr No w w' := by
  have HA := Lib.hid hA
  have HB := Lib.hid hB
  have HT := Lib.hid hT
  have HX := Lib.hid hx
  have HY := Lib.hid hy
  clear hA hB hx hy
  go_enter Tryd.func3, Tryd.ntmps3
  go_wp2_with fail
  refine (shown w hT).mono ?_
  rintro e w1 ⟨rfl, hF1⟩
  have HF1 := Lib.hid hF1
  have HLE := Lib.hid (lent A n c x w1 HX.out (by omega) (HA.out.fr hF1 (fun _ _ _ q => q)))
  clear hF1 hT
  go_wp2_with fail
  refine HLE.out.mono ?_
  rintro e w2 ⟨A2, c2, rb2, rfl, hr2, hF2, hn2⟩
  have HF2 := Lib.hid (HF1.out.then_ hF2)
  have HT2 := Lib.hid (HT.out.no HF2.out)
  have hc2 : n + 8 ≤ c2 := by
    obtain ⟨_, _, hv, hle⟩ := hr2.val
    injection hv with _ _ e3
    omega
  have hc2n : n ≤ c2 := by omega
  have hc2i : (n : Int) ≤ (c2 : Int) := by omega
  have hn0 : (0 : Int) ≤ (n : Int) := by omega
  have HB2 := Lib.hid (show BR Any w2 A2 (x ++ A5 8) from Row.br (D := Any) hr2 (fun _ _ => trivial))
  clear hr2 hF2 hn2 HF1 HLE
  go_wp2_with fail
  refine (sSum A2 n c2 x w2 HX.out (by omega) (BR.left HB2.out) HT2.out).mono ?_
  rintro e w3 ⟨rfl, rfl⟩
  go_wp2_with fail
  refine (sSum B m d y w3 HY.out (by omega) (HB.out.fr HF2.out (fun _ _ _ q => q)) HT2.out).mono ?_
  rintro e w4 ⟨rfl, rfl⟩
  go_wp2_with fail
  refine (sSum A2 n c2 x w4 HX.out (by omega) (BR.left HB2.out) HT2.out).mono ?_
  rintro e w5 ⟨rfl, rfl⟩
  go_wp2_with fail
  refine (rSum A n c x w5 HX.out (by omega) (HA.out.fr HF2.out (fun _ _ _ q => q))).mono ?_
  rintro e w6 ⟨rfl, rfl⟩
  go_wp2_with fail
  refine (rSum B m d y w6 HY.out (by omega) (HB.out.fr HF2.out (fun _ _ _ q => q))).mono ?_
  rintro e w7 ⟨rfl, rfl⟩
  go_wp2_with fail
  refine (still A2 A n c2 c x w7 HX.out (by omega) HB2.out (HA.out.fr HF2.out (fun _ _ _ q => q))).mono ?_
  rintro e w8 ⟨rfl, hF8⟩
  have HF8 := Lib.hid (HF2.out.then_ hF8)
  clear hF8
  go_wp2
  go_ret
  exact ⟨rfl, HF8.out⟩
theorem sum_row (w : World) (hT : Tab w) (A : Option Addr) (c : Nat) (x : List UInt8) (hA : BR Any w A x) (hc : x.length ≤ c) (hb : c ≤ 140737488351232) (B : Option Addr) (d : Nat) (y : List UInt8) (hB : BR Any w B y) (hd : y.length ≤ d) (hb' : d ≤ 140737488351232) :
    Calls Tryd.prog 3 #[.slice A x.length c, .slice B y.length d] w fun e w' => e = .returned (.bool true) ∧ Below w.heap.size w w' :=
  (sum_walk A B _ _ c d x y w rfl rfl (by omega) (by omega) hA hB hT).mono fun _ _ ⟨h, h'⟩ => ⟨h, h'.to⟩
end Go.Proofs.YtfpjdgkooikeoaaDoor.Sl
