/-
  An element of an array that is a value.
-/
import Derived.Test.YtmcjbejccelagaaDoorKit
import Derived.Laws.PanicsMore
namespace Go
open Go.RowKit
theorem run_index_one {P : Program} (t e : TypeId) (n : Nat) (cs : Array Value) (k : Nat) (x : Value) (d : TypeDesc) (h : P.underlying t = some (.array n e)) (he : P.underlying e = some d) (hd : (∀ fs, d ≠ .struct fs) ∧ (∀ m f, d ≠ .array m f)) (hi : (P.info? e).map (·.size) = some 1) (hk : k < n) (hx : cs[k]? = some x) (w : World) :
    (Instr.index t (.agg cs) (.int .i64 k)).run P w = .ok x w := by
  have hagg : (isAgg e).run P w = .ok false w := by
    unfold isAgg
    rw [Sem.run_bind, run_underlying he w]
    cases d <;> simp_all
  cases hq : P.info? e with
  | none => simp [hq] at hi
  | some i =>
    have hs : i.size = 1 := by simpa [hq] using hi
    unfold Instr.index
    simp [Sem.run_bind, asIntOf, run_underlying h, hagg, sizeOf, typeInfo, hq, hs, part, hx, go_sem]
    omega
end Go
