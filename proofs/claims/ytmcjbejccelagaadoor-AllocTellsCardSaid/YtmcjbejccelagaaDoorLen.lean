/-
  bits.Len and bits.Len64.
-/
import Derived.Test.YtmcjbejccelagaaDoorProg
import Derived.Test.YtmcjbejccelagaaDoorKit
import Derived.Laws.Externs
import Derived.Test.YtmcjbejccelagaaDoorShelf
set_option linter.unusedSimpArgs false
namespace Go.Proofs.YtmcjbejccelagaaDoor
open Go.RowKit Go.BigFrame
theorem len_run (x : Int) (w : World) (h0 : 0 ≤ x) (h1 : x ≤ 18446744073709551615) :
    Calls Tryd.prog 59 #[.int .u64 x] w fun e w' => e = .returned (.int .i64 (Lib.bitLen x.toNat)) ∧ w = w' := (Tryd.bits_Len x w h0 h1).mono fun _ _ ⟨a, b⟩ => ⟨a, b.symm⟩
theorem len64_run (x : Int) (w : World) (h0 : 0 ≤ x) (h1 : x ≤ 18446744073709551615) :
    Calls Tryd.prog 79 #[.int .u64 x] w fun e w' => e = .returned (.int .i64 (Lib.bitLen x.toNat)) ∧ w = w' := (Tryd.bits_Len64 x w h0 h1).mono fun _ _ ⟨a, b⟩ => ⟨a, b.symm⟩
end Go.Proofs.YtmcjbejccelagaaDoor
