/-
  What is given fits the budget, and the next pulse would not: the plain law.
-/
import Derived.Test.YtmcjbejccelagaaDoorAlloc
namespace Go.Proofs.YtmcjbejccelagaaDoor
open Go.Vec Go.Cost
/-- Each band has at most what it may have; what is no band has none. -/
def FitL (s c : Int) (l : List Int) : Prop := l.length = 5 ∧ ∀ i : Nat, i < 5 → 0 ≤ l.getD i 0 ∧ (if (i : Int) < bandsF s c then l.getD i 0 ≤ capF (widthF s c i) else l.getD i 0 = 0)
def sum5 (l : List Int) : Int := l.getD 0 0 + l.getD 1 0 + l.getD 2 0 + l.getD 3 0 + l.getD 4 0
theorem bitsF_pos (n k : Int) (h0 : 0 ≤ k) (h : k ≤ capF n) : 0 ≤ bitsF n k := by
  unfold bitsF
  rw [if_pos ⟨h0, h⟩]
  omega
theorem fit_ok {s c : Int} {l : List Int} (h : FitL s c l) (i : Nat) (hi : i < 5) : okAt s c l i = true ∧ 0 ≤ costAt s c l i := by
  obtain ⟨h0, h1⟩ := h.2 i hi
  unfold okAt costAt
  split
  · rename_i hb
    rw [if_pos hb] at h1
    have := bitsF_pos _ _ h0 h1
    exact ⟨by simpa using this, this⟩
  · rename_i hb
    rw [if_neg hb] at h1
    exact ⟨by simpa using h1, by omega⟩
theorem fit_total {s c : Int} {l : List Int} (hR : RightP s c) (h : FitL s c l) : 0 ≤ totalF s c l := by
  have o : okTo s c l 5 = true := by
    simp only [okTo, (fit_ok h 0 (by omega)).1, (fit_ok h 1 (by omega)).1, (fit_ok h 2 (by omega)).1, (fit_ok h 3 (by omega)).1, (fit_ok h 4 (by omega)).1, Bool.and_true]
  have a0 := (fit_ok h 0 (by omega)).2
  have a1 := (fit_ok h 1 (by omega)).2
  have a2 := (fit_ok h 2 (by omega)).2
  have a3 := (fit_ok h 3 (by omega)).2
  have a4 := (fit_ok h 4 (by omega)).2
  unfold totalF
  rw [if_pos ⟨hR, o⟩]
  refine Int.mul_nonneg ?_ (by unfold RightP at hR; omega)
  simp only [sumAt]
  omega
theorem bestF_lt (s c t : Int) (l : List Int) : bestF s c t l < bandsF s c := by
  have h1 := bestTo_bd s c t l (bandsF s c).toNat
  have h3 := bandsF_bd s c
  unfold bestF
  by_cases hz : bandsF s c = 0
  · rw [hz] at h1 ⊢
    simp [bestTo]
  · omega
theorem bestF_cap (s c t : Int) (l : List Int) (h : 0 ≤ bestF s c t l) : l.getD (bestF s c t l).toNat 0 < capF (widthF s c (bestF s c t l)) := bestTo_cap s c t l _ h
theorem set5 {l : List Int} (hl : l.length = 5) (b : Nat) (hb : b < 5) (x : Int) (i : Nat) (hi : i < 5) : (l.set b x).getD i 0 = if i = b then x else l.getD i 0 := by
  simp only [List.getD_eq_getElem?_getD, List.getElem?_set]
  by_cases e : b = i
  · subst e; simp [hl, hb]
  · rw [if_neg e, if_neg (fun h => e h.symm)]
theorem fit_step {s c t : Int} {l : List Int} (h : FitL s c l) (hb : 0 ≤ bestF s c t l) :
    FitL s c (l.set (bestF s c t l).toNat (l.getD (bestF s c t l).toNat 0 + 1)) ∧ sum5 (l.set (bestF s c t l).toNat (l.getD (bestF s c t l).toNat 0 + 1)) = sum5 l + 1 := by
  have hlt := bestF_lt s c t l
  have hcap := bestF_cap s c t l hb
  have hbd := bandsF_bd s c
  obtain ⟨B, hB⟩ := Int.eq_ofNat_of_zero_le hb
  rw [hB] at hlt hcap ⊢
  simp only [Int.toNat_natCast] at hcap ⊢
  have hB5 : B < 5 := by omega
  refine ⟨⟨by simpa using h.1, fun i hi => ?_⟩, ?_⟩
  · rw [set5 h.1 B hB5 _ i hi]
    obtain ⟨h0, h1⟩ := h.2 i hi
    by_cases e : i = B
    · subst e
      rw [if_pos rfl, if_pos hlt]
      exact ⟨by omega, by omega⟩
    · rw [if_neg e]
      exact ⟨h0, h1⟩
  · unfold sum5
    rw [set5 h.1 B hB5 _ 0 (by omega), set5 h.1 B hB5 _ 1 (by omega), set5 h.1 B hB5 _ 2 (by omega), set5 h.1 B hB5 _ 3 (by omega), set5 h.1 B hB5 _ 4 (by omega)]
    have : B = 0 ∨ B = 1 ∨ B = 2 ∨ B = 3 ∨ B = 4 := by omega
    rcases this with rfl | rfl | rfl | rfl | rfl <;> simp <;> omega
theorem fit_sum {s c : Int} {l : List Int} (h : FitL s c l) : sum5 l ≤ 160 := by
  have key : ∀ i : Nat, i < 5 → l.getD i 0 ≤ 32 := fun i hi => by
    obtain ⟨h0, h1⟩ := h.2 i hi
    split at h1
    · have := capF_bd (widthF s c i); omega
    · omega
  have := key 0 (by omega)
  have := key 1 (by omega)
  have := key 2 (by omega)
  have := key 3 (by omega)
  have := key 4 (by omega)
  unfold sum5
  omega
/-- At the end: none may have one more, or one more costs too much. -/
def Done (s c t bud : Int) (r : List Int) : Prop := bestF s c t r < 0 ∨ bud < totalF s c (r.set (bestF s c t r).toNat (r.getD (bestF s c t r).toNat 0 + 1))
theorem allocGo_fits {s c : Int} (t bud : Int) : ∀ (f : Nat) (l : List Int), FitL s c l → 160 - sum5 l < f →
    FitL s c (allocGo s c t bud f l) ∧ (totalF s c (allocGo s c t bud f l) = totalF s c l ∨ totalF s c (allocGo s c t bud f l) ≤ bud) ∧ Done s c t bud (allocGo s c t bud f l)
  | 0, l, h, hf => by have := fit_sum h; omega
  | f + 1, l, h, hf => by
    simp only [allocGo]
    by_cases hb : bestF s c t l < 0
    · rw [if_pos hb]; exact ⟨h, .inl rfl, .inl hb⟩
    · rw [if_neg hb]
      by_cases ht : totalF s c (l.set (bestF s c t l).toNat (l.getD (bestF s c t l).toNat 0 + 1)) > bud
      · rw [if_pos ht]; exact ⟨h, .inl rfl, .inr ht⟩
      · rw [if_neg ht]
        obtain ⟨h1, h2⟩ := fit_step (t := t) h (by omega)
        obtain ⟨a1, a2, a3⟩ := allocGo_fits t bud f _ h1 (by omega)
        refine ⟨a1, .inr ?_, a3⟩
        rcases a2 with a2 | a2 <;> omega
theorem fit_zero (s c : Int) : FitL s c [0, 0, 0, 0, 0] := by
  refine ⟨rfl, fun i hi => ?_⟩
  have e : ([0, 0, 0, 0, 0] : List Int).getD i 0 = 0 := by
    have : i = 0 ∨ i = 1 ∨ i = 2 ∨ i = 3 ∨ i = 4 := by omega
    rcases this with rfl | rfl | rfl | rfl | rfl <;> rfl
  rw [e]
  refine ⟨by omega, ?_⟩
  split
  · rename_i hb
    have hw : widthF s c i = widL.getD i 0 := by unfold widthF; rw [if_pos ⟨by omega, hb⟩]; simp
    rw [hw]
    have h5 : ∀ j : Fin 5, 0 ≤ capF (widL.getD j.val 0) := by decide +kernel
    exact h5 ⟨i, hi⟩
  · rfl
theorem total_zero (s c : Int) (hR : RightP s c) : totalF s c [0, 0, 0, 0, 0] = 0 := by
  have b0 : ∀ i : Nat, i < 5 → costAt s c [0, 0, 0, 0, 0] i = 0 := fun i hi => by
    have e : ([0, 0, 0, 0, 0] : List Int).getD i 0 = 0 := by
      have : i = 0 ∨ i = 1 ∨ i = 2 ∨ i = 3 ∨ i = 4 := by omega
      rcases this with rfl | rfl | rfl | rfl | rfl <;> rfl
    unfold costAt
    rw [e]
    split
    · rename_i hb
      have h1 := (fit_zero s c).2 i hi
      rw [e, if_pos hb] at h1
      unfold bitsF
      rw [if_pos h1]
      simp [pays_zero]
    · rfl
  have o : okTo s c [0, 0, 0, 0, 0] 5 = true := by
    have h := fit_zero s c
    simp only [okTo, (fit_ok h 0 (by omega)).1, (fit_ok h 1 (by omega)).1, (fit_ok h 2 (by omega)).1, (fit_ok h 3 (by omega)).1, (fit_ok h 4 (by omega)).1, Bool.and_true]
  unfold totalF
  rw [if_pos ⟨hR, o⟩]
  simp only [sumAt, b0 0 (by omega), b0 1 (by omega), b0 2 (by omega), b0 3 (by omega), b0 4 (by omega)]
  omega
theorem allocF_fits (s c t bud : Int) (hR : RightP s c) : FitL s c (allocF s c t bud) ∧ 0 ≤ totalF s c (allocF s c t bud) ∧ totalF s c (allocF s c t bud) ≤ max bud 0 ∧ Done s c t bud (allocF s c t bud) := by
  have hz := total_zero s c hR
  obtain ⟨h1, h2, h3⟩ := allocGo_fits t bud 161 [0, 0, 0, 0, 0] (fit_zero s c) (by simp [sum5])
  have h4 := fit_total hR h1
  unfold allocF
  refine ⟨h1, h4, ?_, h3⟩
  rcases h2 with h2 | h2 <;> omega
end Go.Proofs.YtmcjbejccelagaaDoor
namespace Go.Proofs.YtmcjbejccelagaaDoor
open Go.Vec Go.Cost
/-- A slope by the document. -/
def slopeR (t : Int) (b : Nat) : Int := 64 / widL.getD b 0 + (8 - min (max t 0) 7) * b
theorem width_in {s c : Int} {b : Nat} (h : (b : Int) < bandsF s c) : widthF s c b = widL.getD b 0 := by
  unfold widthF; rw [if_pos ⟨by omega, h⟩]; simp
theorem slopeR_eq (s c t : Int) (b : Nat) (h : (b : Int) < bandsF s c) : slopeF s c t b = slopeR t b := by
  have hb := bandsF_bd s c
  have h5 : ∀ i : Fin 5, ¬ widL.getD i.val 0 = 0 := by decide
  unfold slopeF slopeR
  rw [width_in h, if_neg (h5 ⟨b, by omega⟩)]
theorem slopeR_pos (t : Int) (b : Nat) (hb : b < 5) : 1 ≤ slopeR t b ∧ slopeR t b ≤ 64 := by
  unfold slopeR
  have : b = 0 ∨ b = 1 ∨ b = 2 ∨ b = 3 ∨ b = 4 := by omega
  rcases this with rfl | rfl | rfl | rfl | rfl <;> simp [widL] <;> omega
def lev (t : Int) (b : Nat) (l : List Int) : Int := (l.getD b 0 + 1) * slopeR t b
def more (c : Int) (b : Nat) (l : List Int) : Int := c * (bitsF (widL.getD b 0) (l.getD b 0 + 1) - bitsF (widL.getD b 0) (l.getD b 0))
def inc (b : Nat) (l : List Int) : List Int := l.set b (l.getD b 0 + 1)
/-- From a level and a band on. -/
def runI (t bud c : Int) (nb : Nat) : Nat → Int → Nat → List Int → Int → List Int
  | 0, _, _, l, _ => l
  | F + 1, lv, b, l, sum =>
    if b < nb then
      if l.getD b 0 < capF (widL.getD b 0) ∧ lev t b l = lv then
        if bud < sum + more c b l then l else runI t bud c nb F lv (b + 1) (inc b l) (sum + more c b l)
      else runI t bud c nb F lv (b + 1) l sum
    else if lv < 3000 then runI t bud c nb F (lv + 1) 0 l sum else l

/-- What the best of the first n bands is. -/
theorem bestTo_spec (s c t : Int) (l : List Int) : ∀ n : Nat, (n : Int) ≤ bandsF s c →
    ((bestTo s c t l n).1 < 0 → ∀ b, b < n → capF (widL.getD b 0) ≤ l.getD b 0) ∧
    (0 ≤ (bestTo s c t l n).1 → ∃ b, (bestTo s c t l n).1 = (b : Nat) ∧ b < n ∧ (bestTo s c t l n).2 = lev t b l ∧ l.getD b 0 < capF (widL.getD b 0) ∧ ∀ j, j < n → l.getD j 0 < capF (widL.getD j 0) → lev t b l < lev t j l ∨ (lev t j l = lev t b l ∧ b ≤ j))
  | 0, _ => ⟨fun _ b hb => absurd hb (by omega), fun h => by simp [bestTo] at h⟩
  | n + 1, hn => by
    obtain ⟨h1, h2⟩ := bestTo_spec s c t l n (by omega)
    have hw : widthF s c n = widL.getD n 0 := width_in (by omega)
    have hs : slopeF s c t n = slopeR t n := slopeR_eq s c t n (by omega)
    have hbd := bestTo_bd s c t l n
    simp only [bestTo, hw, hs]
    by_cases hc : capF (widL.getD n 0) ≤ l.getD n 0
    · rw [if_pos hc]
      refine ⟨fun h b hb => ?_, fun h => ?_⟩
      · by_cases e : b = n
        · subst e; exact hc
        · exact h1 h b (by omega)
      · obtain ⟨b, e1, e2, e3, e4, e5⟩ := h2 h
        refine ⟨b, e1, by omega, e3, e4, fun j hj hcj => ?_⟩
        by_cases e : j = n
        · subst e; omega
        · exact e5 j (by omega) hcj
    · rw [if_neg hc]
      by_cases hlt : (bestTo s c t l n).1 < 0 ∨ (l.getD n 0 + 1) * slopeR t n < (bestTo s c t l n).2
      · rw [if_pos hlt]
        refine ⟨fun h => by simp only at h; omega, fun _ => ⟨n, rfl, by omega, rfl, by omega, fun j hj hcj => ?_⟩⟩
        by_cases e : j = n
        · subst e; exact .inr ⟨rfl, Nat.le_refl _⟩
        · rcases hlt with hlt | hlt
          · have := h1 hlt j (by omega); omega
          · by_cases h0 : (bestTo s c t l n).1 < 0
            · have := h1 h0 j (by omega); omega
            · obtain ⟨b, e1, e2, e3, e4, e5⟩ := h2 (by omega)
              rw [e3] at hlt
              have := e5 j (by omega) hcj
              left
              show (l.getD n 0 + 1) * slopeR t n < _
              omega
      · rw [if_neg hlt]
        rw [not_or] at hlt
        refine ⟨fun h => absurd h hlt.1, fun h => ?_⟩
        obtain ⟨b, e1, e2, e3, e4, e5⟩ := h2 h
        refine ⟨b, e1, by omega, e3, e4, fun j hj hcj => ?_⟩
        by_cases e : j = n
        · subst e
          have := hlt.2
          rw [e3] at this
          have e6 : lev t j l = (l.getD j 0 + 1) * slopeR t j := rfl
          by_cases e7 : lev t j l = lev t b l
          · exact .inr ⟨e7, by omega⟩
          · left; omega
        · exact e5 j (by omega) hcj

/-- What lies ahead: nothing that may still come is behind this place. -/
def Ahead (t : Int) (nb : Nat) (lv : Int) (b : Nat) (l : List Int) : Prop := ∀ j, j < nb → l.getD j 0 < capF (widL.getD j 0) → lv < lev t j l ∨ (lev t j l = lv ∧ b ≤ j)

theorem bitsF_eq {n k : Int} (h0 : 0 ≤ k) (h : k ≤ capF n) : bitsF n k = (pays n.toNat k.toNat : Nat) := by
  unfold bitsF; rw [if_pos ⟨h0, h⟩]

theorem fit_oks {s c : Int} {l : List Int} (h : FitL s c l) : okTo s c l 5 = true := by
  simp only [okTo, (fit_ok h 0 (by omega)).1, (fit_ok h 1 (by omega)).1, (fit_ok h 2 (by omega)).1, (fit_ok h 3 (by omega)).1, (fit_ok h 4 (by omega)).1, Bool.and_true]
/-- One pulse more. -/
theorem fit_inc {s c : Int} {l : List Int} (h : FitL s c l) (b : Nat) (hb : (b : Int) < bandsF s c) (hc : l.getD b 0 < capF (widL.getD b 0)) : FitL s c (inc b l) ∧ sum5 (inc b l) = sum5 l + 1 := by
  have hbd := bandsF_bd s c
  have hB5 : b < 5 := by omega
  unfold inc
  refine ⟨⟨by simpa using h.1, fun i hi => ?_⟩, ?_⟩
  · rw [set5 h.1 b hB5 _ i hi]
    obtain ⟨h0, h1⟩ := h.2 i hi
    by_cases e : i = b
    · subst e
      rw [if_pos rfl, if_pos hb, width_in hb]
      exact ⟨by omega, by omega⟩
    · rw [if_neg e]
      exact ⟨h0, h1⟩
  · unfold sum5
    rw [set5 h.1 b hB5 _ 0 (by omega), set5 h.1 b hB5 _ 1 (by omega), set5 h.1 b hB5 _ 2 (by omega), set5 h.1 b hB5 _ 3 (by omega), set5 h.1 b hB5 _ 4 (by omega)]
    have : b = 0 ∨ b = 1 ∨ b = 2 ∨ b = 3 ∨ b = 4 := by omega
    rcases this with rfl | rfl | rfl | rfl | rfl <;> simp <;> omega
theorem total_inc {s c : Int} (hR : RightP s c) {l : List Int} (h : FitL s c l) (b : Nat) (hb : (b : Int) < bandsF s c) (hc : l.getD b 0 < capF (widL.getD b 0)) : totalF s c (inc b l) = totalF s c l + more c b l := by
  obtain ⟨h', _⟩ := fit_inc h b hb hc
  have hbd := bandsF_bd s c
  have hB5 : b < 5 := by omega
  unfold totalF
  rw [if_pos ⟨hR, fit_oks h'⟩, if_pos ⟨hR, fit_oks h⟩]
  have key : ∀ i : Nat, i < 5 → costAt s c (inc b l) i = costAt s c l i + if i = b then bitsF (widL.getD b 0) (l.getD b 0 + 1) - bitsF (widL.getD b 0) (l.getD b 0) else 0 := fun i hi => by
    unfold costAt inc
    rw [set5 h.1 b hB5 _ i hi]
    by_cases e : i = b
    · subst e
      rw [if_pos rfl, if_pos rfl, if_pos hb, if_pos hb, width_in hb]
      omega
    · rw [if_neg e, if_neg e]
      omega
  have hsum : sumAt s c (inc b l) 5 = sumAt s c l 5 + (bitsF (widL.getD b 0) (l.getD b 0 + 1) - bitsF (widL.getD b 0) (l.getD b 0)) := by
    simp only [sumAt, key 0 (by omega), key 1 (by omega), key 2 (by omega), key 3 (by omega), key 4 (by omega)]
    generalize bitsF (widL.getD b 0) (l.getD b 0 + 1) - bitsF (widL.getD b 0) (l.getD b 0) = D
    have : b = 0 ∨ b = 1 ∨ b = 2 ∨ b = 3 ∨ b = 4 := by omega
    rcases this with rfl | rfl | rfl | rfl | rfl <;> simp <;> omega
  rw [hsum, Int.add_mul]
  unfold more
  rw [Int.mul_comm c]

theorem run_eq {s c : Int} (hR : RightP s c) (t bud : Int) (nb : Nat) (hnb : bandsF s c = nb) : ∀ (F f : Nat) (lv : Int) (b : Nat) (l : List Int), 1 ≤ lv → lv ≤ 3000 → b ≤ nb → ((3000 - lv).toNat) * (nb + 1) + (nb - b) < F → FitL s c l → Ahead t nb lv b l → 160 - sum5 l < f →
    runI t bud c nb F lv b l (totalF s c l) = allocGo s c t bud f l
  | 0, _, _, _, _, _, _, _, hF, _, _, _ => absurd hF (by omega)
  | F + 1, f, lv, b, l, hl1, hl2, hbn, hF, hfit, hah, hf => by
    have hbd := bandsF_bd s c
    simp only [runI]
    by_cases hb : b < nb
    · rw [if_pos hb]
      by_cases hfire : l.getD b 0 < capF (widL.getD b 0) ∧ lev t b l = lv
      · rw [if_pos hfire]
        obtain ⟨hc, hlev⟩ := hfire
        have hbb : (b : Int) < bandsF s c := by omega
        -- the best band is this one
        have hbest : bestF s c t l = b := by
          obtain ⟨h1, h2⟩ := bestTo_spec s c t l nb (by omega)
          unfold bestF
          rw [hnb, Int.toNat_natCast]
          by_cases h0 : (bestTo s c t l nb).1 < 0
          · have := h1 h0 b hb; omega
          · obtain ⟨j, e1, e2, e3, e4, e5⟩ := h2 (by omega)
            rw [e1]
            have a1 := e5 b hb hc
            have a2 := hah j e2 e4
            have : j = b := by omega
            rw [this]
        have hsum := fit_sum hfit
        obtain ⟨f', rfl⟩ : ∃ f', f = f' + 1 := ⟨f - 1, by omega⟩
        simp only [allocGo]
        rw [hbest, if_neg (show ¬ ((b : Nat) : Int) < 0 by omega), Int.toNat_natCast]
        show _ = if bud < totalF s c (inc b l) then l else allocGo s c t bud f' (inc b l)
        rw [total_inc hR hfit b hbb hc]
        by_cases hbud : bud < totalF s c l + more c b l
        · rw [if_pos hbud, if_pos hbud]
        · rw [if_neg hbud, if_neg hbud]
          obtain ⟨hfit', hs'⟩ := fit_inc hfit b hbb hc
          rw [← total_inc hR hfit b hbb hc]
          refine run_eq hR t bud nb hnb F f' lv (b + 1) (inc b l) hl1 hl2 (by omega) (by omega) hfit' ?_ (by omega)
          intro j hj hcj
          have hB5 : b < 5 := by omega
          have hj5 : j < 5 := by omega
          have e0 : (inc b l).getD j 0 = if j = b then l.getD b 0 + 1 else l.getD j 0 := set5 hfit.1 b hB5 _ j hj5
          by_cases e : j = b
          · subst e
            rw [if_pos rfl] at e0
            left
            have hp := slopeR_pos t j hj5
            have e1 : lev t j (inc j l) = lev t j l + slopeR t j := by
              unfold lev
              rw [e0, show l.getD j 0 + 1 + 1 = (l.getD j 0 + 1) + 1 by omega, Int.add_mul (l.getD j 0 + 1) 1, Int.one_mul]
            omega
          · rw [if_neg e] at e0
            rw [e0] at hcj
            have e1 : lev t j (inc b l) = lev t j l := by unfold lev; rw [e0]
            rw [e1]
            rcases hah j hj hcj with h | ⟨h, h'⟩
            · exact .inl h
            · exact .inr ⟨h, by omega⟩
      · rw [if_neg hfire]
        refine run_eq hR t bud nb hnb F f lv (b + 1) l hl1 hl2 (by omega) (by omega) hfit ?_ hf
        intro j hj hcj
        rcases hah j hj hcj with h | ⟨h, h'⟩
        · exact .inl h
        · by_cases e : j = b
          · subst e; exact absurd ⟨hcj, h⟩ hfire
          · exact .inr ⟨h, by omega⟩
    · rw [if_neg hb]
      by_cases hlv : lv < 3000
      · rw [if_pos hlv]
        refine run_eq hR t bud nb hnb F f (lv + 1) 0 l (by omega) (by omega) (by omega) ?_ hfit ?_ hf
        · obtain ⟨d, hd⟩ : ∃ d : Nat, (3000 - lv).toNat = d + 1 := ⟨(3000 - lv).toNat - 1, by omega⟩
          have hd' : (3000 - (lv + 1)).toNat = d := by omega
          rw [hd, Nat.add_mul] at hF
          rw [hd']
          omega
        · intro j hj hcj
          rcases hah j hj hcj with h | ⟨h, h'⟩
          · by_cases e : lev t j l = lv + 1
            · exact .inr ⟨e, by omega⟩
            · exact .inl (by omega)
          · omega
      · rw [if_neg hlv]
        have hnone : bestF s c t l < 0 := by
          obtain ⟨h1, h2⟩ := bestTo_spec s c t l nb (by omega)
          unfold bestF
          rw [hnb, Int.toNat_natCast]
          refine Int.not_le.1 fun h0 => ?_
          obtain ⟨j, e1, e2, e3, e4, e5⟩ := h2 h0
          have hj5 : j < 5 := by omega
          have hp := slopeR_pos t j hj5
          have hcb := capF_bd (widL.getD j 0)
          have hk := (hfit.2 j hj5).1
          have hle : lev t j l ≤ 33 * 64 := by
            unfold lev
            exact Int.le_trans (Int.mul_le_mul_of_nonneg_right (show l.getD j 0 + 1 ≤ 33 by omega) (by omega)) (Int.mul_le_mul_of_nonneg_left hp.2 (by omega))
          rcases hah j e2 e4 with h | ⟨h, h'⟩ <;> omega
        have hsum := fit_sum hfit
        obtain ⟨f', rfl⟩ : ∃ f', f = f' + 1 := ⟨f - 1, by omega⟩
        simp only [allocGo]
        rw [if_pos hnone]

/-- The document's way, whole. -/
def refF (t bud c : Int) (nb : Nat) : List Int := runI t bud c nb 18001 1 0 [0, 0, 0, 0, 0] 0
theorem refF_eq {s c : Int} (hR : RightP s c) (t bud : Int) (nb : Nat) (hnb : bandsF s c = nb) : refF t bud c nb = allocF s c t bud := by
  have hbd := bandsF_bd s c
  unfold refF allocF
  have h := run_eq hR t bud nb hnb 18001 161 1 0 [0, 0, 0, 0, 0] (by omega) (by omega) (by omega) ?_ (fit_zero s c) ?_ (by simp [sum5])
  · rwa [total_zero s c hR] at h
  · have : nb ≤ 5 := by omega
    have e : ((3000 : Int) - 1).toNat = 2999 := rfl
    rw [e]
    omega
  · intro j hj hcj
    have hj5 : j < 5 := by omega
    have hp := slopeR_pos t j hj5
    have e : ([0, 0, 0, 0, 0] : List Int).getD j 0 = 0 := by
      have : j = 0 ∨ j = 1 ∨ j = 2 ∨ j = 3 ∨ j = 4 := by omega
      rcases this with rfl | rfl | rfl | rfl | rfl <;> rfl
    have e1 : lev t j [0, 0, 0, 0, 0] = slopeR t j := by unfold lev; rw [e]; omega
    rw [e1]
    by_cases e2 : slopeR t j = 1
    · exact .inr ⟨e2, by omega⟩
    · exact .inl (by omega)
end Go.Proofs.YtmcjbejccelagaaDoor
