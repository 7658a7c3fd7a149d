/- The law SealRow, as its row asks for it. Conditions: none. -/
import Derived.Test.YtfpjdgkooikeoaaDoorStrH
namespace Go.Proofs.YtfpjdgkooikeoaaDoor.Sl
open Go.RowKit Go.Proofs.YtfpjdgkooikeoaaDoor.Mem Go.Proofs.YtfpjdgkooikeoaaDoor.Opn
theorem row_row (w : World) (hT : Tab w) (A : Option Addr) (ca : Nat) (xs : List HL) (hA : LL w A xs) (h1 : xs.length ≤ ca) (h2 : ca ≤ 5864062014634) (B : Option Addr) (cb : Nat) (ys : List HL) (hB : LL w B ys) (h3 : ys.length ≤ cb) (h4 : cb ≤ 5864062014634) :
    Calls Tryd.prog 10 #[.slice A xs.length ca, .slice B ys.length cb] w fun e w' => e = .returned (.bool true) ∧ Below w.heap.size w w' :=
  (row_walk A B _ _ ca cb xs ys w rfl rfl (by omega) (by omega) hA hB hT).mono fun _ _ ⟨h, h'⟩ => ⟨h, h'.to⟩
end Go.Proofs.YtfpjdgkooikeoaaDoor.Sl
