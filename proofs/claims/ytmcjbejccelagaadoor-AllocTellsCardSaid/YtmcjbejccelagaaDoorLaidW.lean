/-
  What the listed table of widths gives the walks.
-/
import Derived.Test.YtmcjbejccelagaaDoorLaw
import Derived.Test.YtmcjbejccelagaaDoorMode
import Derived.Test.YtmcjbejccelagaaDoorRows
namespace Go.Proofs.YtmcjbejccelagaaDoor
open Go.RowKit
theorem widths_of {W : World} {rest : List (String × DataW Unit)} (h : laidMet Tryd.prog (("spinet/mode.widths", Rows.laid_spinet_mode_widths) :: rest) W) : WidthW W := by
  have hT := Lib.tabIs_of_head (P := Tryd.prog) (g := 0) (t := 22) (e := 3) (n := 5) (k := .i64) (zs := widL) (by kernel_rfl) (by kernel_rfl) Tryd.underlying22 Tryd.underlying3 (by kernel_rfl) (by kernel_rfl) h
  have hc := fun i hi => hT.cell (g := 0) (by kernel_rfl) i hi
  exact ⟨World.block_lt_of_cell? W ⟨0, 0, none⟩ (hc 0 (by decide)), hc⟩
end Go.Proofs.YtmcjbejccelagaaDoor
