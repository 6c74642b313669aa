/-
  The table of math/bits, as the row lists it.
-/
import Derived.Test.YtgpmbkgedhcbjaaDoorBa
import Derived.Lib.LaidTab
import Derived.Test.YtgpmbkgedhcbjaaDoorRows
namespace Go.Proofs.YtgpmbkgedhcbjaaDoor

def tabZ : List Int := Lib.deBruijn64tab.map fun (n : Nat) => (n : Int)
theorem tabOk_of_laid {W : World} (h : laidMetH Tryd.prog [("math/bits.deBruijn64tab", Rows.laid_math_bits_deBruijn64tab)] W) : TabOk W := by
  have h0 : laidMet Tryd.prog [("math/bits.deBruijn64tab", Rows.laid_math_bits_deBruijn64tab)] W := h
  have h1 : Lib.TabIs Tryd.prog W "math/bits.deBruijn64tab" .u8 tabZ :=
    Lib.tabIs_of_head (rest := []) (g := 0) (t := 83) (e := 5) (n := 64) (by kernel_rfl) (by kernel_rfl) (by kernel_rfl) (by kernel_rfl) (by kernel_rfl) (by kernel_rfl) h0
  intro j hj
  have h2 := h1.cell (g := 0) (by kernel_rfl) j (by simpa [tabZ] using hj)
  rw [h2]
  simp [tabZ, List.getD, hj]
end Go.Proofs.YtgpmbkgedhcbjaaDoor
