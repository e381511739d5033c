/-
  Functions of the reference as Lean functions, and that the Go code comes to these: sections of what print.sh wrote for StateTells.
  (One text out of these parts: RefState1.)
-/
import Derived.Test.YtcibajleknhklaaDoorSlga
import Derived.Test.YtcibajleknhklaaDoorPStateTellsx0
section
namespace Go.Proofs.YtcibajleknhklaaDoor.RStateTells
open Go.RowKit Go.Proofs.YtcibajleknhklaaDoorW.PrintWords Go.Proofs.YtcibajleknhklaaDoorW.PrintLast Go.Proofs.YtcibajleknhklaaDoorW.PrintMore
attribute [local go_sem] max2_int min2_int max_two min_two max_three min_three max_four min_four   -- for this text's walks alone
set_option linter.unusedVariables false
set_option linter.unusedSimpArgs false
open Go.Proofs.YtcibajleknhklaaDoor.PStateTells
end Go.Proofs.YtcibajleknhklaaDoor.RStateTells
end

