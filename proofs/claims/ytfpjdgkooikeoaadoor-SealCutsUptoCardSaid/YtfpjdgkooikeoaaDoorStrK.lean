/- The law SealCuts, as its row asks for it. Conditions: the bytes and cuts that came in are at most 2^20. -/
import Derived.Test.YtfpjdgkooikeoaaDoorStrJ
import Derived.Test.YtfpjdgkooikeoaaDoorOpn
namespace Go.Proofs.YtfpjdgkooikeoaaDoor.Opn
open Go.ChangeShapes Go.WideShapes Go.ChangeAt Go.RowKit Go.Deep Go.Proofs.YtfpjdgkooikeoaaDoor.Mem Go.Proofs.YtfpjdgkooikeoaaDoor.Sl
theorem bytes0 {H : Type} {enc : TypeId × Value → H} {W : World} {A : Option Addr} {len cap : Nat} {dd : DataW H} {ps : List MemPlace} (hS : Sz Tryd.prog 22 dd) (h : DataW.Trod enc Tryd.prog W 0 (fun _ => true) true 22 (.slice A len cap) dd ps) :
    ∃ xs : List UInt8, xs.length = len ∧ (BR Any W A xs ∧ (A = none → cap = 0)) ∧ len ≤ cap ∧ cap ≤ 140737488351232 := by
  obtain ⟨xs, h1, h2, h3, h4, h5⟩ := bytes_gen Tryd.underlying22 Tryd.underlying5 (by kernel_rfl) hS h
  rw [show Tryd.prog.bytesOf 5 = 1 by kernel_rfl, Nat.mul_one] at h4
  exact ⟨xs, h1, ⟨h2, h5⟩, h3, h4⟩
theorem ints {H : Type} {enc : TypeId × Value → H} {W : World} {A : Option Addr} {len cap : Nat} {dd : DataW H} {ps : List MemPlace} (hS : Sz Tryd.prog 41 dd) (h : DataW.Trod enc Tryd.prog W 0 (fun _ => true) true 41 (.slice A len cap) dd ps) :
    ∃ xs : List Int, xs.length = len ∧ IR W A xs ∧ len ≤ cap ∧ cap ≤ 140737488351232 := by
  obtain ⟨xs, h1, h2, h3, h4, _⟩ := ints_gen Tryd.underlying41 Tryd.underlying3 (by kernel_rfl) hS h
  rw [show Tryd.prog.bytesOf 3 = 8 by kernel_rfl] at h4
  refine ⟨xs, h1, fun j x hj => ?_, h3, by have : reachBytes = 140737488351232 := rfl; omega⟩
  obtain ⟨a, e, c, _⟩ := h2 j x hj
  exact ⟨a, e, c⟩
end Go.Proofs.YtfpjdgkooikeoaaDoor.Opn
namespace Go.Proofs.YtfpjdgkooikeoaaDoor.Sl
open Go.RowKit Go.Proofs.YtfpjdgkooikeoaaDoor.Mem Go.Proofs.YtfpjdgkooikeoaaDoor.Opn
theorem cuts_row (w : World) (hT : Tab w) (A : Option Addr) (ca : Nat) (b : List UInt8) (hA : BR Any w A b ∧ (A = none → ca = 0)) (h1 : b.length ≤ ca) (h2 : ca ≤ 1048576) (B : Option Addr) (cb : Nat) (cs : List Int) (hB : IR w B cs) (h3 : cs.length ≤ cb) (h4 : cb ≤ 1048576) (early : Bool) :
    Calls Tryd.prog 9 #[.slice A b.length ca, .slice B cs.length cb, .bool early] w fun e w' => e = .returned (.bool true) ∧ Below w.heap.size w w' :=
  (cuts_walk A B _ ca _ cb b cs early w rfl rfl (by omega) (by omega) h1 h2 hA.2 hA.1 hB hT).mono fun _ _ ⟨h, h'⟩ => ⟨h, h'.to⟩
end Go.Proofs.YtfpjdgkooikeoaaDoor.Sl
