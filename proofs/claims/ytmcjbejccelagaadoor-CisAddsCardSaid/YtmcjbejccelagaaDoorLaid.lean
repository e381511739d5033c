/-
  What the listed tables give the walks.
-/
import Derived.Test.YtmcjbejccelagaaDoorLaw
import Derived.Test.YtmcjbejccelagaaDoorCis
import Derived.Test.YtmcjbejccelagaaDoorRows
namespace Go.Proofs.YtmcjbejccelagaaDoor
open Go.RowKit
theorem cosines_of {W : World} {rest : List (String × DataW Unit)} (h : laidMet Tryd.prog (("spinet/cis.cosines", Rows.laid_spinet_cis_cosines) :: rest) W) : CosW W := by
  have hT := Lib.tabIs_of_head (P := Tryd.prog) (g := 1) (t := 128) (e := 2) (n := 65) (k := .i64) (zs := cosL) (by kernel_rfl) (by kernel_rfl) Tryd.underlying128 Tryd.underlying2 (by kernel_rfl) (by kernel_rfl) h
  have hc := fun i hi => hT.cell (g := 1) (by kernel_rfl) i hi
  exact ⟨World.block_lt_of_cell? W ⟨1, 0, none⟩ (hc 0 (by decide)), hc⟩
end Go.Proofs.YtmcjbejccelagaaDoor
