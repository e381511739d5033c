/-
  What is given fits the budget, and the next pulse would not: the plain law.
-/
import Derived.Test.YtmcjbejccelagaaDoorAlloc
namespace Go.Proofs.YtmcjbejccelagaaDoor
open Go.Vec Go.Cost
/-- Each band has at most what it may have; what is no band has none. -/
def FitL (s c : Int) (l : List Int) : Prop := l.length = 5 ∧ ∀ i : Nat, i < 5 → 0 ≤ l.getD i 0 ∧ (if (i : Int) < bandsF s c then l.getD i 0 ≤ capF (widthF s c i) else l.getD i 0 = 0)
def sum5 (l : List Int) : Int := l.getD 0 0 + l.getD 1 0 + l.getD 2 0 + l.getD 3 0 + l.getD 4 0
theorem bitsF_pos (n k : Int) (h0 : 0 ≤ k) (h : k ≤ capF n) : 0 ≤ bitsF n k := by
  unfold bitsF
  rw [if_pos ⟨h0, h⟩]
  omega
theorem fit_ok {s c : Int} {l : List Int} (h : FitL s c l) (i : Nat) (hi : i < 5) : okAt s c l i = true ∧ 0 ≤ costAt s c l i := by
  obtain ⟨h0, h1⟩ := h.2 i hi
  unfold okAt costAt
  split
  · rename_i hb
    rw [if_pos hb] at h1
    have := bitsF_pos _ _ h0 h1
    exact ⟨by simpa using this, this⟩
  · rename_i hb
    rw [if_neg hb] at h1
    exact ⟨by simpa using h1, by omega⟩
theorem fit_total {s c : Int} {l : List Int} (hR : RightP s c) (h : FitL s c l) : 0 ≤ totalF s c l := by
  have o : okTo s c l 5 = true := by
    simp only [okTo, (fit_ok h 0 (by omega)).1, (fit_ok h 1 (by omega)).1, (fit_ok h 2 (by omega)).1, (fit_ok h 3 (by omega)).1, (fit_ok h 4 (by omega)).1, Bool.and_true]
  have a0 := (fit_ok h 0 (by omega)).2
  have a1 := (fit_ok h 1 (by omega)).2
  have a2 := (fit_ok h 2 (by omega)).2
  have a3 := (fit_ok h 3 (by omega)).2
  have a4 := (fit_ok h 4 (by omega)).2
  unfold totalF
  rw [if_pos ⟨hR, o⟩]
  refine Int.mul_nonneg ?_ (by unfold RightP at hR; omega)
  simp only [sumAt]
  omega
theorem bestF_lt (s c t : Int) (l : List Int) : bestF s c t l < bandsF s c := by
  have h1 := bestTo_bd s c t l (bandsF s c).toNat
  have h3 := bandsF_bd s c
  unfold bestF
  by_cases hz : bandsF s c = 0
  · rw [hz] at h1 ⊢
    simp [bestTo]
  · omega
theorem bestF_cap (s c t : Int) (l : List Int) (h : 0 ≤ bestF s c t l) : l.getD (bestF s c t l).toNat 0 < capF (widthF s c (bestF s c t l)) := bestTo_cap s c t l _ h
theorem set5 {l : List Int} (hl : l.length = 5) (b : Nat) (hb : b < 5) (x : Int) (i : Nat) (hi : i < 5) : (l.set b x).getD i 0 = if i = b then x else l.getD i 0 := by
  simp only [List.getD_eq_getElem?_getD, List.getElem?_set]
  by_cases e : b = i
  · subst e; simp [hl, hb]
  · rw [if_neg e, if_neg (fun h => e h.symm)]
theorem fit_step {s c t : Int} {l : List Int} (h : FitL s c l) (hb : 0 ≤ bestF s c t l) :
    FitL s c (l.set (bestF s c t l).toNat (l.getD (bestF s c t l).toNat 0 + 1)) ∧ sum5 (l.set (bestF s c t l).toNat (l.getD (bestF s c t l).toNat 0 + 1)) = sum5 l + 1 := by
  have hlt := bestF_lt s c t l
  have hcap := bestF_cap s c t l hb
  have hbd := bandsF_bd s c
  obtain ⟨B, hB⟩ := Int.eq_ofNat_of_zero_le hb
  rw [hB] at hlt hcap ⊢
  simp only [Int.toNat_natCast] at hcap ⊢
  have hB5 : B < 5 := by omega
  refine ⟨⟨by simpa using h.1, fun i hi => ?_⟩, ?_⟩
  · rw [set5 h.1 B hB5 _ i hi]
    obtain ⟨h0, h1⟩ := h.2 i hi
    by_cases e : i = B
    · subst e
      rw [if_pos rfl, if_pos hlt]
      exact ⟨by omega, by omega⟩
    · rw [if_neg e]
      exact ⟨h0, h1⟩
  · unfold sum5
    rw [set5 h.1 B hB5 _ 0 (by omega), set5 h.1 B hB5 _ 1 (by omega), set5 h.1 B hB5 _ 2 (by omega), set5 h.1 B hB5 _ 3 (by omega), set5 h.1 B hB5 _ 4 (by omega)]
    have : B = 0 ∨ B = 1 ∨ B = 2 ∨ B = 3 ∨ B = 4 := by omega
    rcases this with rfl | rfl | rfl | rfl | rfl <;> simp <;> omega
theorem fit_sum {s c : Int} {l : List Int} (h : FitL s c l) : sum5 l ≤ 160 := by
  have key : ∀ i : Nat, i < 5 → l.getD i 0 ≤ 32 := fun i hi => by
    obtain ⟨h0, h1⟩ := h.2 i hi
    split at h1
    · have := capF_bd (widthF s c i); omega
    · omega
  have := key 0 (by omega)
  have := key 1 (by omega)
  have := key 2 (by omega)
  have := key 3 (by omega)
  have := key 4 (by omega)
  unfold sum5
  omega
/-- At the end: none may have one more, or one more costs too much. -/
def Done (s c t bud : Int) (r : List Int) : Prop := bestF s c t r < 0 ∨ bud < totalF s c (r.set (bestF s c t r).toNat (r.getD (bestF s c t r).toNat 0 + 1))
theorem allocGo_fits {s c : Int} (t bud : Int) : ∀ (f : Nat) (l : List Int), FitL s c l → 160 - sum5 l < f →
    FitL s c (allocGo s c t bud f l) ∧ (totalF s c (allocGo s c t bud f l) = totalF s c l ∨ totalF s c (allocGo s c t bud f l) ≤ bud) ∧ Done s c t bud (allocGo s c t bud f l)
  | 0, l, h, hf => by have := fit_sum h; omega
  | f + 1, l, h, hf => by
    simp only [allocGo]
    by_cases hb : bestF s c t l < 0
    · rw [if_pos hb]; exact ⟨h, .inl rfl, .inl hb⟩
    · rw [if_neg hb]
      by_cases ht : totalF s c (l.set (bestF s c t l).toNat (l.getD (bestF s c t l).toNat 0 + 1)) > bud
      · rw [if_pos ht]; exact ⟨h, .inl rfl, .inr ht⟩
      · rw [if_neg ht]
        obtain ⟨h1, h2⟩ := fit_step (t := t) h (by omega)
        obtain ⟨a1, a2, a3⟩ := allocGo_fits t bud f _ h1 (by omega)
        refine ⟨a1, .inr ?_, a3⟩
        rcases a2 with a2 | a2 <;> omega
theorem fit_zero (s c : Int) : FitL s c [0, 0, 0, 0, 0] := by
  refine ⟨rfl, fun i hi => ?_⟩
  have e : ([0, 0, 0, 0, 0] : List Int).getD i 0 = 0 := by
    have : i = 0 ∨ i = 1 ∨ i = 2 ∨ i = 3 ∨ i = 4 := by omega
    rcases this with rfl | rfl | rfl | rfl | rfl <;> rfl
  rw [e]
  refine ⟨by omega, ?_⟩
  split
  · rename_i hb
    have hw : widthF s c i = widL.getD i 0 := by unfold widthF; rw [if_pos ⟨by omega, hb⟩]; simp
    rw [hw]
    have h5 : ∀ j : Fin 5, 0 ≤ capF (widL.getD j.val 0) := by decide +kernel
    exact h5 ⟨i, hi⟩
  · rfl
theorem total_zero (s c : Int) (hR : RightP s c) : totalF s c [0, 0, 0, 0, 0] = 0 := by
  have b0 : ∀ i : Nat, i < 5 → costAt s c [0, 0, 0, 0, 0] i = 0 := fun i hi => by
    have e : ([0, 0, 0, 0, 0] : List Int).getD i 0 = 0 := by
      have : i = 0 ∨ i = 1 ∨ i = 2 ∨ i = 3 ∨ i = 4 := by omega
      rcases this with rfl | rfl | rfl | rfl | rfl <;> rfl
    unfold costAt
    rw [e]
    split
    · rename_i hb
      have h1 := (fit_zero s c).2 i hi
      rw [e, if_pos hb] at h1
      unfold bitsF
      rw [if_pos h1]
      simp [pays_zero]
    · rfl
  have o : okTo s c [0, 0, 0, 0, 0] 5 = true := by
    have h := fit_zero s c
    simp only [okTo, (fit_ok h 0 (by omega)).1, (fit_ok h 1 (by omega)).1, (fit_ok h 2 (by omega)).1, (fit_ok h 3 (by omega)).1, (fit_ok h 4 (by omega)).1, Bool.and_true]
  unfold totalF
  rw [if_pos ⟨hR, o⟩]
  simp only [sumAt, b0 0 (by omega), b0 1 (by omega), b0 2 (by omega), b0 3 (by omega), b0 4 (by omega)]
  omega
theorem allocF_fits (s c t bud : Int) (hR : RightP s c) : FitL s c (allocF s c t bud) ∧ 0 ≤ totalF s c (allocF s c t bud) ∧ totalF s c (allocF s c t bud) ≤ max bud 0 ∧ Done s c t bud (allocF s c t bud) := by
  have hz := total_zero s c hR
  obtain ⟨h1, h2, h3⟩ := allocGo_fits t bud 161 [0, 0, 0, 0, 0] (fit_zero s c) (by simp [sum5])
  have h4 := fit_total hR h1
  unfold allocF
  refine ⟨h1, h4, ?_, h3⟩
  rcases h2 with h2 | h2 <;> omega
end Go.Proofs.YtmcjbejccelagaaDoor
