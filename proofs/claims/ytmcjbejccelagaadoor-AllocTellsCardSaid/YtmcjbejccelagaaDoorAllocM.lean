/-
  With more to share out no band gets less: the plain law.
-/
import Derived.Test.YtmcjbejccelagaaDoorAlloc
namespace Go.Proofs.YtmcjbejccelagaaDoor
open Go.Vec Go.Cost
/-- Place by place at least. -/
def AtLeast (l r : List Int) : Prop := ∀ i, l.getD i 0 ≤ r.getD i 0
theorem AtLeast.refl (l : List Int) : AtLeast l l := fun _ => Int.le_refl _
theorem AtLeast.trans {a b c : List Int} (h : AtLeast a b) (k : AtLeast b c) : AtLeast a c := fun i => Int.le_trans (h i) (k i)
theorem atLeast_set (l : List Int) (j : Nat) : AtLeast l (l.set j (l.getD j 0 + 1)) := fun i => by
  simp only [List.getD_eq_getElem?_getD, List.getElem?_set]
  by_cases e : j = i
  · subst e
    by_cases h : j < l.length
    · simp [h]; omega
    · simp [h]
  · simp [e]
theorem allocGo_atLeast (s c t x : Int) : ∀ (f : Nat) (l : List Int), AtLeast l (allocGo s c t x f l)
  | 0, l => AtLeast.refl l
  | f + 1, l => by
    simp only [allocGo]
    split
    · exact AtLeast.refl l
    · split
      · exact AtLeast.refl l
      · exact (atLeast_set l _).trans (allocGo_atLeast s c t x f _)
theorem allocGo_more (s c t x y : Int) (h : x ≤ y) : ∀ (f : Nat) (l : List Int), AtLeast (allocGo s c t x f l) (allocGo s c t y f l)
  | 0, l => AtLeast.refl l
  | f + 1, l => by
    simp only [allocGo]
    by_cases hb : bestF s c t l < 0
    · rw [if_pos hb, if_pos hb]; exact AtLeast.refl l
    · rw [if_neg hb, if_neg hb]
      by_cases h1 : totalF s c (l.set (bestF s c t l).toNat (l.getD (bestF s c t l).toNat 0 + 1)) > x
      · rw [if_pos h1]
        split
        · exact AtLeast.refl l
        · exact (atLeast_set l _).trans (allocGo_atLeast s c t y f _)
      · rw [if_neg h1, if_neg (by omega)]
        exact allocGo_more s c t x y h f _
theorem allocF_more (s c t x y : Int) (h : x ≤ y) (i : Nat) : (allocF s c t x).getD i 0 ≤ (allocF s c t y).getD i 0 := allocGo_more s c t x y h _ _ i
end Go.Proofs.YtmcjbejccelagaaDoor
